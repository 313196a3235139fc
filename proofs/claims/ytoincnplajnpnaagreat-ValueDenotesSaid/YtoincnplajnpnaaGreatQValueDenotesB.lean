/-
  ValueDenotes, part 2: the texts Limb, Nat1, Nat2, Nat3, Nat4, Nat5, Nat6, Nat7, RatPlain, Rat, Rat2, Rat3, Dec, Tape, Tape2 as one.
-/
import Derived.Test.YtoincnplajnpnaaGreatQValueDenotesA
open Go.Proofs.Tryz
set_option linter.unusedVariables false
set_option linter.unusedSimpArgs false
set_option linter.unnecessarySimpa false
set_option maxHeartbeats 1000000
namespace Go.Proofs.YtoincnplajnpnaaGreat
open Go Go.Tw
set_option maxRecDepth 100000 in
theorem vp : zo prog 3 1 8 := ⟨_,_,Tryz.type3,rfl,rfl,rfl,rfl⟩
set_option maxRecDepth 100000 in
theorem qvd : zo prog 5 1 1 := ⟨_,_,Tryz.type5,rfl,rfl,rfl,rfl⟩
set_option maxRecDepth 100000 in
theorem qci : zo prog 9 1 16 := ⟨_,_,Tryz.type9,rfl,rfl,rfl,rfl⟩
set_option maxRecDepth 100000 in
theorem jy : zo prog 48 3 56 := ⟨_,_,Tryz.type48,rfl,rfl,rfl,rfl⟩
set_option maxRecDepth 100000 in
theorem qna : zo prog 53 7 88 := ⟨_,_,Tryz.type53,rfl,rfl,rfl,rfl⟩
set_option maxRecDepth 100000 in
theorem qnb : zo prog 67 8 104 := ⟨_,_,Tryz.type67,rfl,rfl,rfl,rfl⟩
set_option maxRecDepth 100000 in
theorem qjf : zo prog 72 2 24 := ⟨_,_,Tryz.type72,rfl,rfl,rfl,rfl⟩
set_option maxRecDepth 100000 in
theorem qbj : zo prog 83 1 4 := ⟨_,_,Tryz.type83,rfl,rfl,rfl,rfl⟩
set_option maxRecDepth 100000 in
theorem qnc : qc3 prog 3 1 8 [.int .i64 0] := ⟨_,_,Tryz.type3,rfl,rfl,rfl,rfl,rfl⟩
set_option maxRecDepth 100000 in
theorem qa1 : qc3 prog 83 1 4 [.int .u32 0] := ⟨_,_,Tryz.type83,rfl,rfl,rfl,rfl,rfl⟩
def zl (O : List Nat) : Nat → Nat
 | 0 => 0
 | i + 1 => zl O i + dg O i
theorem qnd {O : List Nat} (h : Wds O) : ∀ i, zl O i ≤ 4294967295 * i
 | 0 => by simp [zl]
 | i + 1 => by have := qnd h i; have := yz h i; simp only [zl]; omega
theorem qg3 (va : Value) (O : List Nat) {I : Hp} (ha : Ws I va O) (hl : O.length ≤ 3) : Fun prog 161 [va] I [] (fun v _ _ => v = .int .u64 (zl O O.length : Nat)) := by
 intro w hw
 refine q9 _ func161 rfl ntmps161 rfl ?_ hw;refine sR ?_;refine oV ?_;refine nS ?_;refine oV ?_;refine nU ?_;refine oV ?_;refine vj trivial rfl underlying46 rfl (ha) ?_;refine oV ?_;refine oN (tC (cB ?_));refine qu (ι := Nat) [6,7] (.cons rfl (.cons rfl .nil)) (fun i => O.length - i) (fun i E0 => (3,.int .u64 (zl O i : Nat)) :: (8,.int .i64 (i : Int)) :: E0) (fun i => St w [] I []) (fun i => i ≤ O.length) (0) (sC rfl (sC rfl (sC rfl (sC rfl sN)))) (fun _ h => h) (Nat.zero_le _) ?_;rintro i hle
 try dsimp only
 have hlen := yv O; have hs := qnd ha.wds i; have hd := yz ha.wds i
 refine sR ?_;refine oV ?_;refine oN (tC (cS ?_));refine cC rfl (fun h1 => ?_) (fun h1 => ?_)
 ·
  have f1 := h1;try simp only [bl] at f1
  refine cK (tC (cS (cB (sR ?_))));refine y4 trivial rfl underlying46 sizeOf83 rfl (ha) rfl (by omega) ?_;refine q8 trivial rfl isAgg83 rfl (ha.cellI (Int.toNat_natCast i) (by omega)) ?_;refine oV ?_;refine nR ?_;iterate 2 refine oV ?_
  refine ya trivial rfl underlying83 underlying108 rfl (by rw [IntWalk.u64_in _ (by omega)]) ?_;refine qbf trivial rfl rfl rfl (by rw [IntWalk.u64_in _ (by omega)]) ?_;refine oV ?_;refine oN (qe (tC (cR ?_)))
  (refine qf trivial rfl rfl rfl ?_ ?_; (omega))
  refine oV ?_;refine oN ?_;exact qj (i + 1) (sC rfl (sC rfl (sC rfl (sC rfl sN)))) (fun _ h => h) (by show O.length - (i + 1) < O.length - i; omega) (by omega)
 have f1 := h1;try simp only [bl] at f1
 refine qq (qc (qc (qp rfl (tC (sR ?_)))));iterate 2 refine oV ?_
 refine nE ?_;refine ret1 rfl rfl ?_
 have e : i = O.length := by omega
 subst e
 exact qg rfl
theorem qjg (n : Nat) (h : n < 18446744073709551616) : jw prog 160 [.int .u64 (n : Int)] (.tuple #[.int .u32 ((n / 4294967296 : Nat) : Int),.int .u32 ((n % 4294967296 : Nat) : Int)]) := by
 intro w
 refine q9 _ func160 rfl ntmps160 rfl ?_ (S := fun w1 => w1 = w) rfl;refine sR ?_;iterate 2 refine oV ?_
 refine nS ?_;refine oV ?_;refine qd1 4294967296 trivial rfl rfl rfl (by decide) rfl (by omega) ?_;refine ya trivial rfl underlying108 underlying83 rfl (by rw [IntWalk.u32_in _ (by omega)]) ?_;refine oV ?_;refine qav trivial rfl underlying108 underlying83 rfl ?_;iterate 2 refine oV ?_
 refine nE ?_;refine ret2 rfl rfl rfl ?_;exact fun _ hw => ⟨by rw [IntKind.wrap_u32]; rfl,hw⟩
theorem qjh (a b c : Nat) {I : Hp} (ha : a < 4294967296) (hb : b < 4294967296) (hc : c < 4294967296) : Fun prog 159 [.int .u32 (a : Int),.int .u32 (b : Int),.int .u32 (c : Int)] I [] (fun v _ _ => v = .tuple #[.int .u32 (((a + b + c) % 4294967296 : Nat) : Int),.int .u32 (((a + b + c) / 4294967296 : Nat) : Int)]) := by
 intro w hw
 refine j5 _ func159 rfl ntmps159 rfl ?_ hw;refine sR ?_;iterate 2 refine oV ?_
 refine nS ?_;iterate 3 refine oV ?_
 refine oB underlying46 sizeOf83 zeroValue83 fun b12 => ?_;refine qaz [a,b,c] Take.here (jx ha (jx hb (jx hc zc))) (by unfold maxLen; simp) (fun I1 hx1 hs1 => ?_);refine oQ call161 rfl (qg3 _ _ hs1 (by simp)) ?_;refine oP trivial rfl call160 rfl (qjg (zl [a,b,c] 3) (by simp [zl,dg]; omega)) ?_;iterate 5 refine oV ?_
 refine nS ?_;iterate 4 refine oV ?_
 refine nE ?_;refine ret2 rfl rfl rfl ?_;refine leaf hx1 (List.nil_sublist _) ?_; simp [zl,dg,tup]
theorem qve (a b c d : Nat) {I : Hp} (ha : a < 4294967296) (hb : b < 4294967296) (hc : c < 4294967296) (hd : d < 4294967296) : Fun prog 150 [.int .u32 (a : Int),.int .u32 (b : Int),.int .u32 (c : Int),.int .u32 (d : Int)] I [] (fun v _ _ => v = .tuple #[.int .u32 (((a * b + c + d) / 4294967296 : Nat) : Int),.int .u32 (((a * b + c + d) % 4294967296 : Nat) : Int)]) := by
 have hm : a * b ≤ 18446744065119617025 := Nat.mul_le_mul (show a ≤ 4294967295 by omega) (show b ≤ 4294967295 by omega)
 intro w hw
 refine qfd _ func150 rfl ntmps150 rfl ?_ hw;refine sR ?_;iterate 2 refine oV ?_
 refine nS ?_;refine oV ?_;refine ya trivial rfl underlying83 underlying108 rfl (by rw [IntWalk.u64_in _ (by omega)]) ?_;refine oV ?_;refine ya trivial rfl underlying83 underlying108 rfl (by rw [IntWalk.u64_in _ (by omega)]) ?_
 (refine qmm trivial rfl rfl rfl (by rw [IntWalk.u64_in _ (by rw [← Int.natCast_mul]; omega)]) ?_)
 iterate 2 refine oV ?_
 refine oB underlying46 sizeOf83 zeroValue83 fun b17 => ?_;refine qaz [c,d] Take.here (jx hc (jx hd zc)) (by unfold maxLen; simp) (fun I1 hx1 hs1 => ?_);refine oQ call161 rfl (qg3 _ _ hs1 (by simp)) ?_
 have hsum : zl [c,d] [c,d].length = c + d := by simp [zl,dg]
 rw [hsum]
 (refine qbf trivial rfl rfl rfl (by rw [IntWalk.u64_in _ (by rw [← Int.natCast_mul]; omega)]) ?_)
 rw [show (a : Int) * (b : Int) + ((c + d : Nat) : Int) = ((a * b + c + d : Nat) : Int) by rw [← Int.natCast_mul]; omega]
 refine oP trivial rfl call160 rfl (qjg (a * b + c + d) (by omega)) ?_;iterate 4 refine oV ?_
 refine nE ?_;refine ret2 rfl rfl rfl ?_;refine leaf hx1 (List.nil_sublist _) ?_; rfl
theorem qvf (a b c : Nat) {I : Hp} (ha : a < 4294967296) (hb : b < 4294967296) (hc : c < 4294967296) : Fun prog 157 [.int .u32 (a : Int),.int .u32 (b : Int),.int .u32 (c : Int)] I [] (fun v _ _ => ∃ s k : Nat,v = .tuple #[.int .u32 (s : Int),.int .u32 (k : Int)] ∧ s < 4294967296 ∧ k < 4294967296 ∧ s + b + c = a + 4294967296 * k) := by
 intro w hw
 refine j5 _ func157 rfl ntmps157 rfl ?_ hw;refine sR ?_;iterate 2 refine oV ?_
 refine nS ?_;iterate 2 refine oV ?_
 refine oB underlying46 sizeOf83 zeroValue83 fun b13 => ?_;refine qaz [b,c] Take.here (jx hb (jx hc zc)) (by unfold maxLen; simp) (fun I1 hx1 hs1 => ?_);refine oQ call161 rfl (qg3 _ _ hs1 (by simp)) ?_;refine oV ?_;refine oN (tC (cS ?_))
 have hsum : zl [b,c] [b,c].length = b + c := by simp [zl,dg]
 rw [hsum]
 refine cR ?_;refine oV ?_;refine ya trivial rfl underlying83 underlying108 rfl (by rw [IntWalk.u64_in _ (by omega)]) ?_;refine oV ?_;refine oV ?_;refine qav trivial rfl underlying108 underlying83 rfl ?_;refine oV ?_;refine oN (tC (cS ?_))
 obtain ⟨s,hs⟩ : ∃ s : Nat,IntKind.u32.wrap (IntKind.u64.wrap ((a : Int) - ((b + c : Nat) : Int))) = s := ⟨_,(Int.toNat_of_nonneg (by rw [IntKind.wrap_u32]; omega)).symm⟩
 rw [hs]
 rw [IntKind.wrap_u32,IntKind.wrap_u64] at hs
 have hsl : s < 4294967296 := by omega
 refine cR ?_;refine oV ?_;refine oB underlying46 sizeOf83 zeroValue83 fun b22 => ?_;refine qaz [s] Take.here (jx hsl zc) (by unfold maxLen; simp) (fun I2 hx2 hs2 => ?_);refine oQ call161 rfl (qg3 _ _ hs2 (by simp)) ?_;refine oV ?_
 rw [show ((zl [s] [s].length : Nat) : Int) = (s : Int) by simp [zl,dg]]
 refine qbf trivial rfl rfl rfl (by rw [IntWalk.u64_in _ (by omega)]) ?_
 rw [show (s : Int) + ((b + c : Nat) : Int) = ((s + b + c : Nat) : Int) by omega]
 refine oP trivial rfl call160 rfl (qjg (s + b + c) (by omega)) ?_;iterate 5 refine oV ?_
 refine nS ?_;iterate 4 refine oV ?_
 refine nE ?_;refine ret2 rfl rfl rfl ?_;refine leaf (hx1.trans hx2 (Nat.le_refl _)) (List.nil_sublist _) ⟨s,(s + b + c) / 4294967296,rfl,hsl,by omega,?_⟩; omega
theorem qvg (p q d : Nat) : ((p : Int) * 4294967296 + (q : Int)) / (d : Int) = (((p * 4294967296 + q) / d : Nat) : Int) := by rw [Int.natCast_ediv,Int.natCast_add,Int.natCast_mul]; rfl
theorem qvh (p q d : Nat) : ((p : Int) * 4294967296 + (q : Int)) % (d : Int) = (((p * 4294967296 + q) % d : Nat) : Int) := by rw [Int.natCast_emod,Int.natCast_add,Int.natCast_mul]; rfl
theorem qne (p q d : Nat) {I : Hp} (h : p < d) (hd : d < 4294967296) (hq : q < 4294967296) : Fun prog 148 [.int .u32 (p : Int),.int .u32 (q : Int),.int .u32 (d : Int)] I [] (fun v _ _ => v = .tuple #[.int .u32 (((p * 4294967296 + q) / d : Nat) : Int),.int .u32 (((p * 4294967296 + q) % d : Nat) : Int),.bool true]) := by
 have hlt := qi2 h hq
 have hm : (p * 4294967296 + q) % d < d := Nat.mod_lt _ (by omega)
 have e1 := qvg p q d
 have e2 := qvh p q d
 generalize (p * 4294967296 + q) / d = s at *
 generalize (p * 4294967296 + q) % d = r at *
 intro w hw
 refine j5 _ func148 rfl ntmps148 rfl ?_ hw;refine sR ?_;iterate 3 refine oV ?_
 refine nU ?_;iterate 3 refine oV ?_
 refine nT ?_;refine cC rfl (fun h1 => ?_) (fun h1 => ?_)
 ·
  have f1 := h1;try simp only [bl] at f1
  exfalso; omega
 have f1 := h1;try simp only [bl] at f1
 refine kS ?_;refine oV ?_;refine ya trivial rfl underlying83 underlying108 rfl (by rw [IntWalk.u64_in _ (by omega)]) ?_;refine qmn 4294967296 trivial rfl rfl rfl (by decide) rfl (by rw [IntWalk.u64_in _ (by omega)]) ?_;refine oV ?_;refine ya trivial rfl underlying83 underlying108 rfl (by rw [IntWalk.u64_in _ (by omega)]) ?_;refine qt1 trivial rfl rfl rfl (by omega) (by omega) ?_;refine oV ?_;refine oN (tC (cS ?_));refine jn (by kernel_rfl) (by kernel_rfl) (fun _ h => h.drawn) ?_;iterate 2 refine oV ?_
 refine ya trivial rfl underlying83 underlying108 rfl (by rw [IntWalk.u64_in _ (by omega)]) ?_;refine qcb trivial rfl rfl rfl (by omega) (by rw [e1,IntWalk.u64_in _ (by omega)]) ?_;refine ya trivial rfl underlying108 underlying83 rfl (by rw [e1,IntWalk.u32_in _ (by omega)]) ?_;iterate 2 refine oV ?_
 refine ya trivial rfl underlying83 underlying108 rfl (by rw [IntWalk.u64_in _ (by omega)]) ?_;refine j6 trivial rfl rfl rfl (by omega) ?_;refine ya trivial rfl underlying108 underlying83 rfl (by rw [e2,IntWalk.u32_in _ (by omega)]) ?_;iterate 3 refine oV ?_
 refine nE ?_;refine ret3 rfl rfl rfl rfl ?_;refine qg ?_; rw [e1,e2]
theorem qvi (p q d : Nat) {I : Hp} (h : d ≤ p) : Fun prog 148 [.int .u32 (p : Int),.int .u32 (q : Int),.int .u32 (d : Int)] I [] (fun v _ _ => v = .tuple #[.int .u32 0,.int .u32 0,.bool false]) := by
 intro w hw
 refine j5 _ func148 rfl ntmps148 rfl ?_ hw;refine sR ?_;iterate 3 refine oV ?_
 refine nU ?_;iterate 3 refine oV ?_
 refine nT ?_;refine cC rfl (fun h1 => ?_) (fun h1 => ?_)
 ·
  have f1 := h1;try simp only [bl] at f1
  refine sR ?_;iterate 3 refine oV ?_
  refine nF ?_;refine ret3 rfl rfl rfl rfl ?_;exact qg rfl
 have f1 := h1;try simp only [bl] at f1
 exfalso; omega
def divQ (p q d : Nat) : Nat := if p < d then (p * 4294967296 + q) / d else 0
def divR (p q d : Nat) : Nat := if p < d then (p * 4294967296 + q) % d else 0
theorem qvj (p q d : Nat) {I : Hp} (hd : d < 4294967296) (hq : q < 4294967296) : Fun prog 148 [.int .u32 (p : Int),.int .u32 (q : Int),.int .u32 (d : Int)] I [] (fun v _ _ => v = .tuple #[.int .u32 (divQ p q d : Nat),.int .u32 (divR p q d : Nat),.bool (decide (p < d))]) := by
 unfold divQ divR
 rcases Nat.lt_or_ge p d with h | h
 · rw [if_pos h,if_pos h,decide_eq_true h]; exact qne p q d h hd hq
 · rw [if_neg (by omega),if_neg (by omega),decide_eq_false (by omega)]; exact qvi p q d h
theorem qc8 (va : Value) (O : List Nat) {I : Hp} (ha : Ws I va O) (hs : O.length ≤ 1000000000) : Fun prog 126 [va] I [] (fun v _ _ => v = .int .i64 (lowL O : Nat)) := by
 have hlen := yv O
 intro w hw
 refine q9 _ func126 rfl ntmps126 rfl ?_ hw;refine sR ?_;refine oV ?_;refine nS ?_;refine oV ?_;refine vj trivial rfl underlying46 rfl (ha) ?_;refine oV ?_;refine oN (tC (cS (cB ?_)));refine qu (ι := Nat) [0] (.cons rfl .nil) (fun i => i) (fun i E0 => (3,.int .i64 (i : Int)) :: E0) (fun i => St w [] I []) (fun i => i ≤ O.length ∧ low O i = lowL O) (O.length) (sC rfl (sC rfl sN)) (fun _ h => h) (⟨Nat.le_refl _,rfl⟩) ?_;rintro i ⟨hle,hlow⟩
 try dsimp only
 refine cS (sR ?_);iterate 2 refine oV ?_
 refine' oY (fun hb8 => ?_) ?_;rotate_left
 ·
  have fb8 := hb8
  try simp only [bl] at fb8
  iterate 2 refine gV hb8 ?_
  (refine vy (wS rfl rfl hb8) rfl rfl rfl ?_ ?_; (omega))
  refine y4 (wS rfl rfl hb8) rfl underlying46 sizeOf83 rfl (ha) rfl (by omega) ?_;refine q8 (wS rfl rfl hb8) rfl isAgg83 rfl (ha.cellI (k := i - 1) (by omega) (by omega)) ?_;refine gV hb8 ?_;refine oN ?_;exact qa rfl
 refine nT ?_;refine cC rfl (fun h1 => ?_) (fun h1 => ?_)
 ·
  have f1 := h1;try simp only [bl] at f1
  have hi : low O i = low O (i - 1) := by
    obtain ⟨j,rfl⟩ : ∃ j,i = j + 1 := ⟨i - 1,by omega⟩
    rw [low,if_pos (by have := f1.2; rw [Nat.add_sub_cancel] at this; omega),Nat.add_sub_cancel]
  rw [show (i : Int) = ((i - 1 : Nat) : Int) + 1 by omega]
  refine cK (tC (cB (cR ?_)));refine oV ?_;refine vy trivial rfl rfl rfl (by omega) ?_
  rw [show ((i - 1 : Nat) : Int) + 1 - 1 = ((i - 1 : Nat) : Int) by omega]
  refine oV ?_;refine oN (qe ?_);exact qj (i - 1) (sC rfl (sC rfl sN)) (fun _ h => h) (by show i - 1 < i; omega) ⟨by omega,by rw [← hi]; exact hlow⟩
 have f1 := h1;try simp only [bl] at f1
 have hi : lowL O = i := by
   rcases Nat.eq_zero_or_pos i with h0 | h0
   · subst h0; rw [← hlow]; rfl
   · obtain ⟨j, rfl⟩ : ∃ j, i = j + 1 := ⟨i - 1, by omega⟩
     rw [← hlow, low, if_neg (by rcases f1 with f1 | f1
                                 · omega
                                 · rw [Nat.add_sub_cancel] at f1; omega)]
 refine qq (qc (qc (qp rfl (tC (sR ?_)))));iterate 2 refine oV ?_
 refine nE ?_;refine ret1 rfl rfl ?_;refine qg ?_; rw [hi]
theorem qvk {n k : Nat} (h : 2 ^ k ≤ n) : bitZ n = k + bitZ (n / 2 ^ k) := by
 have hp : 0 < 2 ^ k := Nat.pow_pos (by decide)
 have h0 : 0 < n / 2 ^ k := Nat.div_pos h hp
 have h1 := qi4 (n / 2 ^ k)
 have h2 := qg1 (n := n / 2 ^ k) (by omega)
 have h3 : 0 < bitZ (n / 2 ^ k) := Nat.pos_of_ne_zero fun e => by have := qc6.1 e; omega
 obtain ⟨j,hj⟩ : ∃ j,bitZ (n / 2 ^ k) = j + 1 := ⟨bitZ (n / 2 ^ k) - 1,by omega⟩
 rw [hj] at h1 h2 ⊢
 rw [Nat.add_sub_cancel] at h2
 rw [show k + (j + 1) = (k + j) + 1 by omega]
 refine qmu ?_ ?_
 · rw [Nat.pow_add, Nat.mul_comm]
   have := Nat.mul_le_mul_right (2 ^ k) h2
   have h4 := Nat.div_mul_le_self n (2 ^ k)
   omega
 · rw [show k + j + 1 = (j + 1) + k by omega, Nat.pow_add]
   exact (Nat.div_lt_iff_lt_mul hp).1 h1
theorem qg4 {n k m : Nat} (hm : 2 ^ k = m) (h : m ≤ n) : bitZ n = k + bitZ (n / m) := by subst hm; exact qvk h
theorem qg5 {tab : ByteArray} (h : ∀ k,k < 256 → (tab.get! k).toNat = bitZ k) {x : Int} (k : Nat) (hx : x.toNat = k) (hk : k < 256) : (((tab.get! x.toNat).toNat : Nat) : Int) = (bitZ k : Nat) := by subst hx; rw [h _ hk]
theorem qvl (n : Nat) {I : Hp} (h : n < 4294967296) : Fun prog 143 [.int .u32 (n : Int)] I [] (fun v _ _ => v = .int .i64 (bitZ n : Nat)) := by
 intro w hw
 refine q9 _ func143 rfl ntmps143 rfl ?_ hw;refine sR ?_;refine oV ?_;refine nU ?_;iterate 2 refine oV ?_
 refine nT ?_;refine cC rfl (fun h1 => ?_) (fun h1 => ?_)
 ·
  have f1 := h1;try simp only [bl] at f1
  refine sR ?_;refine oV ?_;refine qd1 65536 trivial rfl rfl rfl (by decide) rfl (by omega) ?_;refine oV ?_;refine nR ?_;refine oV ?_;refine nU ?_;iterate 2 refine oV ?_
  refine nT ?_;refine cC rfl (fun h2 => ?_) (fun h2 => ?_)
  ·
   have f2 := h2;try simp only [bl] at f2
   refine sR ?_;refine oV ?_;refine qd1 256 trivial rfl rfl rfl (by decide) rfl (by omega) ?_;refine oV ?_;refine nR ?_;refine oV ?_
   (refine qf trivial rfl rfl rfl ?_ ?_; (omega))
   refine oV ?_;refine nS ?_;iterate 2 refine oV ?_
   refine ya trivial rfl underlying83 underlying5 rfl (by rw [IntWalk.u8_in _ (by omega)]) ?_;refine qbd trivial rfl underlying9 rfl rfl (by exact ⟨by omega,Int.lt_of_lt_of_le (b := 256) (by omega) (by decide +kernel)⟩) ?_;refine qav trivial rfl underlying5 underlying3 rfl ?_;refine oV ?_;refine oV ?_;refine nE ?_;refine ret1 rfl rfl ?_;refine qg (congrArg (Value.int .i64) ?_); rw [qg5 (by decide +kernel) (n / 65536 / 256) (by omega) (by omega),qg4 (n := n) (k := 16) (m := 65536) rfl (by omega),qg4 (n := n / 65536) (k := 8) (m := 256) rfl (by omega)]; have hb : bitZ (n / 65536 / 256) ≤ 8 := qd4 (by omega); rw [IntKind.wrap_i64,IntKind.wrap_i64]; omega
  have f2 := h2;try simp only [bl] at f2
  refine kS ?_;iterate 2 refine oV ?_
  refine ya trivial rfl underlying83 underlying5 rfl (by rw [IntWalk.u8_in _ (by omega)]) ?_;refine qbd trivial rfl underlying9 rfl rfl (by exact ⟨by omega,Int.lt_of_lt_of_le (b := 256) (by omega) (by decide +kernel)⟩) ?_;refine qav trivial rfl underlying5 underlying3 rfl ?_;refine oV ?_;refine oV ?_;refine nE ?_;refine ret1 rfl rfl ?_;refine qg (congrArg (Value.int .i64) ?_); rw [qg5 (by decide +kernel) (n / 65536) (by omega) (by omega),qg4 (n := n) (k := 16) (m := 65536) rfl (by omega)]; have hb : bitZ (n / 65536) ≤ 8 := qd4 (by omega); rw [IntKind.wrap_i64,IntKind.wrap_i64]; omega
 have f1 := h1;try simp only [bl] at f1
 refine cK (tC (cS (sR ?_)));iterate 2 refine oV ?_
 refine nT ?_;refine cC rfl (fun h2 => ?_) (fun h2 => ?_)
 ·
  have f2 := h2;try simp only [bl] at f2
  refine sR ?_;refine oV ?_;refine qd1 256 trivial rfl rfl rfl (by decide) rfl (by omega) ?_;refine oV ?_;refine nR ?_;refine oV ?_
  (refine qf trivial rfl rfl rfl ?_ ?_; (omega))
  refine oV ?_;refine nS ?_;iterate 2 refine oV ?_
  refine ya trivial rfl underlying83 underlying5 rfl (by rw [IntWalk.u8_in _ (by omega)]) ?_;refine qbd trivial rfl underlying9 rfl rfl (by exact ⟨by omega,Int.lt_of_lt_of_le (b := 256) (by omega) (by decide +kernel)⟩) ?_;refine qav trivial rfl underlying5 underlying3 rfl ?_;refine oV ?_;refine oV ?_;refine nE ?_;refine ret1 rfl rfl ?_;refine qg (congrArg (Value.int .i64) ?_); rw [qg5 (by decide +kernel) (n / 256) (by omega) (by omega),qg4 (n := n) (k := 8) (m := 256) rfl (by omega)]; have hb : bitZ (n / 256) ≤ 8 := qd4 (by omega); rw [IntKind.wrap_i64,IntKind.wrap_i64]; omega
 have f2 := h2;try simp only [bl] at f2
 refine kS ?_;iterate 2 refine oV ?_
 refine ya trivial rfl underlying83 underlying5 rfl (by rw [IntWalk.u8_in _ (by omega)]) ?_;refine qbd trivial rfl underlying9 rfl rfl (by exact ⟨by omega,Int.lt_of_lt_of_le (b := 256) (by omega) (by decide +kernel)⟩) ?_;refine qav trivial rfl underlying5 underlying3 rfl ?_;refine oV ?_;refine oV ?_;refine nE ?_;refine ret1 rfl rfl ?_;refine qg (congrArg (Value.int .i64) ?_); rw [qg5 (by decide +kernel) n (by omega) (by omega)]; have hb : bitZ (n) ≤ 8 := qd4 (by omega); rw [IntKind.wrap_i64,IntKind.wrap_i64]; omega
theorem qnf (n : Nat) {I : Hp} (h : n < 4294967296) : Fun prog 127 [.int .u32 (n : Int)] I [] (fun v _ _ => v = .int .i64 (bitZ n : Nat)) := by
 intro w hw
 refine q9 _ func127 rfl ntmps127 rfl ?_ hw;refine sR ?_;refine oV ?_;refine nS ?_;refine oV ?_;refine oQ call143 rfl (qvl n h) ?_;refine oV ?_;refine nE ?_;refine ret1 rfl rfl ?_;exact qg rfl
theorem qvm {w : World} {I0 I : Hp} {B B' : List Tw.Item} {b : Nat} (O : List Nat) {T : TypeId} {fz : Nat × Nat} {R : Value → Hp → List Tw.Item → Prop} {v : Value} (he : Ext w.heap.size I0 I) (hw : Wds O) (hm : O.length ≤ maxLen) (ht : Take (.box b (.cells (wl O).toArray T fz)) B B')
   (h : ∀ I',Ws I' (.slice (some ⟨b,0,none⟩) O.length O.length) O → R v I' []) : ∀ w',St w [] I B w' → Post w [] I0 R v w' := fun w' hw' => by
 obtain ⟨I',h1,h2,h3⟩ := hw'.sealBox ht
 exact ⟨I',[],h1.drop (List.nil_sublist _),he.trans h2 (Nat.le_refl _),h I' (Ws.of_box h3 hw hm (Nat.le_refl _))⟩
def cmpZ (x y : Int) : Int := if x < y then -1 else if x > y then 1 else 0
theorem qng (x : Int) : jw prog 166 [.int .i64 x] (.bool false) := by
 intro w
 refine q9 _ func166 rfl ntmps166 rfl ?_ (S := fun w1 => w1 = w) rfl;refine sR ?_;refine oV ?_;refine nS ?_;iterate 4 refine oV ?_
 refine nE ?_;refine ret1 rfl rfl ?_;exact fun _ hw => ⟨by simp,hw⟩
theorem qnh (x : Int) : jw prog 167 [.int .u32 x] (.bool false) := by
 intro w
 refine q9 _ func167 rfl ntmps167 rfl ?_ (S := fun w1 => w1 = w) rfl;refine sR ?_;refine oV ?_;refine nS ?_;iterate 4 refine oV ?_
 refine nE ?_;refine ret1 rfl rfl ?_;exact fun _ hw => ⟨by simp,hw⟩
theorem qvn (x y : Int) : jw prog 163 [.int .i64 x,.int .i64 y] (.int .i64 (cmpZ x y)) := by
 intro w
 refine qv _ func163 rfl ntmps163 rfl ?_ (S := fun w1 => w1 = w) rfl;refine sR ?_;refine oV ?_;refine nS ?_;refine oV ?_;refine oP trivial rfl call166 rfl (qng _) ?_;refine oV ?_;refine nS ?_;refine oV ?_;refine oP trivial rfl call166 rfl (qng _) ?_;refine oV ?_;refine nU ?_;refine oV ?_;refine nT ?_;refine cC rfl (fun h1 => ?_) (fun h1 => ?_)
 ·
  have f1 := h1;try simp only [bl] at f1
  exfalso; cases h1
 have f1 := h1;try simp only [bl] at f1
 refine cK (tC (cS (sR ?_)));refine oV ?_;refine nT ?_;refine cC rfl (fun h3 => ?_) (fun h3 => ?_)
 ·
  have f3 := h3;try simp only [bl] at f3
  exfalso; cases h3
 have f3 := h3;try simp only [bl] at f3
 refine cK (tC (cS (sR ?_)));iterate 3 refine oV ?_
 refine nT ?_;refine cC rfl (fun h4 => ?_) (fun h4 => ?_)
 ·
  have f4 := h4;try simp only [bl] at f4
  refine sR ?_;refine oV ?_;refine nF ?_;refine ret1 rfl rfl ?_;exact fun _ hw => ⟨by unfold cmpZ; rw [if_pos f4],hw⟩
 have f4 := h4;try simp only [bl] at f4
 refine cK (tC (cS (sR ?_)));iterate 3 refine oV ?_
 refine nT ?_;refine cC rfl (fun h5 => ?_) (fun h5 => ?_)
 ·
  have f5 := h5;try simp only [bl] at f5
  refine sR ?_;refine oV ?_;refine nF ?_;refine ret1 rfl rfl ?_;exact fun _ hw => ⟨by unfold cmpZ; rw [if_neg (by omega),if_pos f5],hw⟩
 have f5 := h5;try simp only [bl] at f5
 refine kS ?_;refine oV ?_;refine nE ?_;refine ret1 rfl rfl ?_;exact fun _ hw => ⟨by unfold cmpZ; rw [if_neg (by omega),if_neg (by omega)],hw⟩
theorem qvo (x y : Int) : jw prog 164 [.int .u32 x,.int .u32 y] (.int .i64 (cmpZ x y)) := by
 intro w
 refine qv _ func164 rfl ntmps164 rfl ?_ (S := fun w1 => w1 = w) rfl;refine sR ?_;refine oV ?_;refine nS ?_;refine oV ?_;refine oP trivial rfl call167 rfl (qnh _) ?_;refine oV ?_;refine nS ?_;refine oV ?_;refine oP trivial rfl call167 rfl (qnh _) ?_;refine oV ?_;refine nU ?_;refine oV ?_;refine nT ?_;refine cC rfl (fun h1 => ?_) (fun h1 => ?_)
 ·
  have f1 := h1;try simp only [bl] at f1
  exfalso; cases h1
 have f1 := h1;try simp only [bl] at f1
 refine cK (tC (cS (sR ?_)));refine oV ?_;refine nT ?_;refine cC rfl (fun h3 => ?_) (fun h3 => ?_)
 ·
  have f3 := h3;try simp only [bl] at f3
  exfalso; cases h3
 have f3 := h3;try simp only [bl] at f3
 refine cK (tC (cS (sR ?_)));iterate 3 refine oV ?_
 refine nT ?_;refine cC rfl (fun h4 => ?_) (fun h4 => ?_)
 ·
  have f4 := h4;try simp only [bl] at f4
  refine sR ?_;refine oV ?_;refine nF ?_;refine ret1 rfl rfl ?_;exact fun _ hw => ⟨by unfold cmpZ; rw [if_pos f4],hw⟩
 have f4 := h4;try simp only [bl] at f4
 refine cK (tC (cS (sR ?_)));iterate 3 refine oV ?_
 refine nT ?_;refine cC rfl (fun h5 => ?_) (fun h5 => ?_)
 ·
  have f5 := h5;try simp only [bl] at f5
  refine sR ?_;refine oV ?_;refine nF ?_;refine ret1 rfl rfl ?_;exact fun _ hw => ⟨by unfold cmpZ; rw [if_neg (by omega),if_pos f5],hw⟩
 have f5 := h5;try simp only [bl] at f5
 refine kS ?_;refine oV ?_;refine nE ?_;refine ret1 rfl rfl ?_;exact fun _ hw => ⟨by unfold cmpZ; rw [if_neg (by omega),if_neg (by omega)],hw⟩
theorem qfo {x y : Int} (h : cmpZ x y = 0) : x = y := by unfold cmpZ at h; split at h <;> (try split at h) <;> omega
theorem qni (va : Value) (O : List Nat) {I : Hp} (ha : Ws I va O) (hs : O.length ≤ 1000000000) : Fun prog 140 [va] I [] (fun v _ _ => v = .bool (decide (lowL O = O.length))) := by
 intro w hw
 refine q9 _ func140 rfl ntmps140 rfl ?_ hw;refine sR ?_;refine oV ?_;refine nS ?_;refine oV ?_;refine oQ call126 rfl (qc8 _ _ ha (by omega)) ?_;refine oV ?_;refine vj trivial rfl underlying46 rfl (ha) ?_;iterate 2 refine oV ?_
 refine nE ?_;refine ret1 rfl rfl ?_;refine qg (congrArg Value.bool ?_); rw [Bool.eq_iff_iff,beq_iff_eq,decide_eq_true_eq]; omega
theorem qam (va : Value) (O : List Nat) {I : Hp} (ha : Ws I va O) (hs : O.length ≤ 1000000000) : Fun prog 98 [va] I [] (fun v I' _ => Ws I' v (natW (val O))) := by
 have hle : lowL O ≤ O.length := qal O O.length
 intro w hw
 refine q9 _ func98 rfl ntmps98 rfl ?_ hw;refine sR ?_;refine oV ?_;refine nS ?_;refine oV ?_;refine oQ call126 rfl (qc8 _ _ ha (by omega)) ?_;refine oV ?_;refine nU ?_;iterate 2 refine oV ?_
 refine nT ?_;refine cC rfl (fun h1 => ?_) (fun h1 => ?_)
 ·
  have f1 := h1;try simp only [bl] at f1
  refine sR ?_;refine oV ?_;refine nF ?_;refine ret1 rfl rfl ?_
  have e : natW (val O) = [] := by rw [← qc5 ha.wds,show lowL O = 0 by omega]; rfl
  refine qg ?_; rw [e]; exact Ws.nil I
 have f1 := h1;try simp only [bl] at f1
 refine kS ?_;refine oV ?_;refine qbu trivial rfl underlying46 qa1 rfl rfl (by omega) (by omega) (by (unfold maxLen; omega)) (fun b10 => ?_);refine oV ?_;refine nS ?_
 rw [Int.toNat_natCast,qbh]
 iterate 2 refine oV ?_
 refine qum trivial rfl underlying46 qa1 rfl rfl (ha) (by repeat constructor) (by rw [List.length_replicate]) (by omega) ?_;refine nS ?_;iterate 2 refine oV ?_
 refine nE ?_;refine ret1 rfl rfl ?_;refine qvm (natW (val O)) (Ext.refl _ _) (j7 _) (by rw [← qc5 ha.wds,List.length_take]; unfold maxLen; omega) (by rw [← qc5 ha.wds]; exact Take.here) (fun I' h => ?_)
 have e : lowL O = (natW (val O)).length := qd3 ha.wds
 show Ws I' (.slice (some ⟨b10,0,none⟩) (lowL O) (lowL O)) _
 rw [e]; exact h
theorem qvp (n : Nat) (h : n < 18446744073709551616) : val [n % 4294967296,n / 4294967296] = n := by
 rw [zr,zr,qc4]; omega
theorem qji (n : Nat) {I : Hp} (h : n < 18446744073709551616) : Fun prog 70 [.int .u64 (n : Int)] I [] (fun v I' _ => Ws I' v (natW n)) := by
 intro w hw
 refine q9 _ func70 rfl ntmps70 rfl ?_ hw;refine sR ?_;refine oV ?_;refine nS ?_;refine oV ?_;refine qav trivial rfl underlying108 underlying83 rfl ?_;refine oV ?_;refine qd1 4294967296 trivial rfl rfl rfl (by decide) rfl (by omega) ?_;refine ya trivial rfl underlying108 underlying83 rfl (by rw [IntWalk.u32_in _ (by omega)]) ?_;refine oB underlying46 sizeOf83 zeroValue83 fun b8 => ?_;refine qaz [n % 4294967296,n / 4294967296] (by rw [IntKind.wrap_u32]; exact Take.here) (jx (by omega) (jx (by omega) zc)) (by unfold maxLen; simp) (fun I1 hx1 hs1 => ?_);refine oI call98 rfl (qam _ _ hs1 (by simp)) ?_;rintro _ I2 hx2 hs2;refine oV ?_;refine nE ?_;refine ret1 rfl rfl ?_;refine leaf (hx1.trans hx2 (Nat.le_refl _)) (List.nil_sublist _) ?_; rw [qvp n h] at hs2; exact hs2
theorem qd7 (va : Value) (O : List Nat) (i : Nat) {I : Hp} (ha : Ws I va O) : Fun prog 158 [va,.int .i64 (i : Int)] I [] (fun v _ _ => v = .int .u32 (dg O i : Nat)) := by
 intro w hw
 refine qv _ func158 rfl ntmps158 rfl ?_ hw;refine sR ?_;refine oV ?_;refine nU ?_;iterate 2 refine oV ?_
 refine vj trivial rfl underlying46 rfl (ha) ?_;refine oV ?_;refine nT ?_;refine cC rfl (fun h1 => ?_) (fun h1 => ?_)
 ·
  have f1 := h1;try simp only [bl] at f1
  refine sR ?_;iterate 2 refine oV ?_
  refine y4 trivial rfl underlying46 sizeOf83 rfl (ha) rfl (by omega) ?_;refine q8 trivial rfl isAgg83 rfl (ha.cellI (Int.toNat_natCast i) (by omega)) ?_;refine oV ?_;refine nF ?_;refine ret1 rfl rfl ?_;exact qg rfl
 have f1 := h1;try simp only [bl] at f1
 refine kS ?_;refine oV ?_;refine nE ?_;refine ret1 rfl rfl ?_;refine qg ?_; rw [qbg (by omega)]; rfl
theorem qfp (va : Value) (O : List Nat) {I : Hp} (ha : Ws I va O) (hs : O.length ≤ 1000000000) : Fun prog 95 [va] I [] (fun v _ _ => v = .int .i64 (bitZ (val O) : Nat)) := by
 have hle : lowL O ≤ O.length := qal O O.length
 have hd := yz ha.wds (lowL O - 1)
 have hb : bitZ (dg O (lowL O - 1)) ≤ 32 := qd4 (by omega)
 intro w hw
 refine q9 _ func95 rfl ntmps95 rfl ?_ hw;refine sR ?_;refine oV ?_;refine nS ?_;refine oV ?_;refine oQ call126 rfl (qc8 _ _ ha (by omega)) ?_;refine oV ?_;refine nU ?_;iterate 2 refine oV ?_
 refine nT ?_;refine cC rfl (fun h1 => ?_) (fun h1 => ?_)
 ·
  have f1 := h1;try simp only [bl] at f1
  refine sR ?_;refine oV ?_;refine nF ?_;refine ret1 rfl rfl ?_;refine qg ?_; rw [(qiy ha.wds).1 (by omega)]; rfl
 have f1 := h1;try simp only [bl] at f1
 refine kS ?_;refine oV ?_
 (refine vy trivial rfl rfl rfl ?_ ?_; (omega))
 (refine zi trivial rfl rfl rfl ?_ ?_; (omega))
 iterate 2 refine oV ?_
 (refine vy trivial rfl rfl rfl ?_ ?_; (omega))
 refine y4 trivial rfl underlying46 sizeOf83 rfl (ha) rfl (by omega) ?_;refine q8 trivial rfl isAgg83 rfl (ha.cellI (k := lowL O - 1) (by omega) (by omega)) ?_;refine oQ call127 rfl (qnf _ hd) ?_
 (refine qf trivial rfl rfl rfl ?_ ?_; (omega))
 refine oV ?_;refine nE ?_;refine ret1 rfl rfl ?_;refine qg (congrArg (Value.int .i64) ?_); have e := qug ha.wds (by omega); omega
theorem qjj {A B : List Nat} (ha : Wds A) (hb : Wds B) (h : lowL A < lowL B) : val A < val B := by
 have h1 : val A < 4294967296 ^ lowL A := by rw [← qbv (l := A) (n := A.length) |>.trans (show pre A A.length = val A from rfl)]; exact qay ha _
 have ht := qgx (l := B) (n := B.length) (by show 0 < lowL B; omega)
 obtain ⟨n,hn⟩ : ∃ n,lowL B = n + 1 := ⟨lowL B - 1,by omega⟩
 have h2 : val B = pre B (n + 1) := by rw [← hn]; exact (qbv (l := B) (n := B.length)).symm
 change dg B (lowL B - 1) ≠ 0 at ht
 rw [hn,Nat.add_sub_cancel] at ht
 rw [pre] at h2
 have h3 : 4294967296 ^ lowL A ≤ 4294967296 ^ n := Nat.pow_le_pow_right (by decide) (by omega)
 have h4 : 1 * 4294967296 ^ n ≤ dg B n * 4294967296 ^ n := Nat.mul_le_mul_right _ (by omega)
 rw [Nat.one_mul] at h4
 omega
theorem qcj {x y : Int} (h : x < y) : cmpZ x y = -1 := if_pos h
theorem qd8 {x y : Int} (h : y < x) : cmpZ x y = 1 := by unfold cmpZ; rw [if_neg (by omega),if_pos h]
theorem qck (x : Int) : cmpZ x x = 0 := by unfold cmpZ; rw [if_neg (by omega),if_neg (by omega)]
theorem qvq {A B : List Nat} (ha : Wds A) (hb : Wds B) (h : cmpZ (lowL A : Nat) (lowL B : Nat) ≠ 0) : cmpZ (lowL A : Nat) (lowL B : Nat) = cmpZ (val A : Nat) (val B : Nat) := by
 rcases Nat.lt_trichotomy (lowL A) (lowL B) with h1 | h1 | h1
 · have := qjj ha hb h1
   rw [qcj (by omega),qcj (by omega)]
 · rw [h1] at h; exact absurd (qck _) h
 · have := qjj hb ha h1
   rw [qd8 (by omega),qd8 (by omega)]
theorem qvr {A B : List Nat} (ha : Wds A) (hb : Wds B) {m : Nat} (h : val A + pre B (m + 1) = val B + pre A (m + 1)) (hne : cmpZ (dg A m : Nat) (dg B m : Nat) ≠ 0) : cmpZ (dg A m : Nat) (dg B m : Nat) = cmpZ (val A : Nat) (val B : Nat) := by
 have h1 := qay ha m
 have h2 := qay hb m
 rw [pre,pre] at h
 rcases Nat.lt_trichotomy (dg A m) (dg B m) with h3 | h3 | h3
 · have : (dg A m + 1) * 4294967296 ^ m ≤ dg B m * 4294967296 ^ m := Nat.mul_le_mul_right _ h3
   rw [Nat.add_mul,Nat.one_mul] at this
   rw [qcj (by omega),qcj (by omega)]
 · rw [h3] at hne; exact absurd (qck _) hne
 · have : (dg B m + 1) * 4294967296 ^ m ≤ dg A m * 4294967296 ^ m := Nat.mul_le_mul_right _ h3
   rw [Nat.add_mul,Nat.one_mul] at this
   rw [qd8 (by omega),qd8 (by omega)]
theorem qnj (va vb : Value) (A B : List Nat) {I : Hp} (ha : Ws I va A) (hb : Ws I vb B) (hs : A.length ≤ 1000000000) (hs2 : B.length ≤ 1000000000) : Fun prog 155 [va,vb] I [] (fun v _ _ => v = .int .i64 (cmpZ (val A : Nat) (val B : Nat))) := by
 have hle : lowL A ≤ A.length := qal A A.length
 have hle2 : lowL B ≤ B.length := qal B B.length
 intro w hw
 refine qv _ func155 rfl ntmps155 rfl ?_ hw;refine sR ?_;refine oV ?_;refine nS ?_;refine oV ?_;refine oQ call126 rfl (qc8 _ _ ha (by omega)) ?_;refine oV ?_;refine nU ?_;iterate 2 refine oV ?_
 refine oQ call126 rfl (qc8 _ _ hb (by omega)) ?_;refine oP trivial rfl call163 rfl (qvn _ _) ?_;refine oV ?_;refine nS ?_;iterate 2 refine oV ?_
 refine nT ?_;refine cC rfl (fun h1 => ?_) (fun h1 => ?_)
 ·
  have f1 := h1;try simp only [bl] at f1
  refine sR ?_;iterate 2 refine oV ?_
  refine nF ?_;refine ret1 rfl rfl ?_;refine qg ?_; rw [qvq ha.wds hb.wds f1]
 have f1 := h1;try simp only [bl] at f1
 have hll : lowL A = lowL B := by have := qfo f1; omega
 refine cK (tC (cS (sR ?_)));iterate 2 refine oV ?_
 refine oN (tC (cB ?_))
 refine qu (ι := Nat) [0, 1, 5, 18] (.cons rfl (.cons rfl (.cons rfl (.cons rfl .nil)))) (fun i => lowL A - i) (fun i E0 => (19, .int .i64 (i : Int)) :: E0) (fun i => St w [] I []) (fun i => i ≤ lowL A ∧ val A + pre B (lowL A - i) = val B + pre A (lowL A - i)) (0) (sC rfl (sC rfl (sC rfl (sC rfl (sC rfl sN))))) (fun _ h => h) (⟨Nat.zero_le _, by
   show val A + pre B (lowL A) = val B + pre A (lowL A)
   have e1 : pre A (lowL A) = val A := qbv (l := A) (n := A.length)
   have e2 : pre B (lowL B) = val B := qbv (l := B) (n := B.length)
   rw [e1,hll,e2,Nat.add_comm]⟩) ?_
 rintro i ⟨hi,hF⟩
 try dsimp only
 refine sR ?_;refine oV ?_;refine oN (tC (cS ?_));refine cC rfl (fun h2 => ?_) (fun h2 => ?_)
 ·
  have f2 := h2;try simp only [bl] at f2
  obtain ⟨m,hm⟩ : ∃ m,lowL A - i = m + 1 := ⟨lowL A - i - 1,by omega⟩
  rw [hm] at hF
  refine cK (tC (cS (cB (sR ?_))));iterate 2 refine oV ?_
  refine oN (tC (cS ?_));refine jn (by kernel_rfl) (by kernel_rfl) (fun _ h => h.drawn) ?_;iterate 2 refine oV ?_
  (refine vy trivial rfl rfl rfl ?_ ?_; (omega))
  refine oV ?_
  (refine vy trivial rfl rfl rfl ?_ ?_; (omega))
  refine y4 trivial rfl underlying46 sizeOf83 rfl (ha) rfl (by omega) ?_;refine q8 trivial rfl isAgg83 rfl (ha.cellI (k := m) (by omega) (by omega)) ?_;iterate 2 refine oV ?_
  (refine vy trivial rfl rfl rfl ?_ ?_; (omega))
  refine oV ?_
  (refine vy trivial rfl rfl rfl ?_ ?_; (omega))
  refine y4 trivial rfl underlying46 sizeOf83 rfl (hb) rfl (by omega) ?_;refine q8 trivial rfl isAgg83 rfl (hb.cellI (k := m) (by omega) (by omega)) ?_;refine oP trivial rfl call164 rfl (qvo _ _) ?_;refine oV ?_;refine nS ?_;iterate 2 refine oV ?_
  refine nT ?_;refine cC rfl (fun h3 => ?_) (fun h3 => ?_)
  ·
   have f3 := h3;try simp only [bl] at f3
   refine sR ?_;iterate 2 refine oV ?_
   refine oN (tC (cT (qd (tR (tR (qd (tR ?_)))))));refine ret1 rfl rfl ?_;refine qg ?_; rw [qvr ha.wds hb.wds hF f3]
  have f3 := h3;try simp only [bl] at f3
  refine cK (qe (tC (cR ?_)))
  (refine qf trivial rfl rfl rfl ?_ ?_; (omega))
  refine oV ?_;refine oN ?_
  exact qj (i + 1) (sC rfl (sC rfl (sC rfl (sC rfl (sC rfl sN))))) (fun _ h => h) (by show lowL A - (i + 1) < lowL A - i; omega) ⟨by omega, by
    have e := qfo f3
    rw [pre,pre,show dg A m = dg B m by omega] at hF
    rw [show lowL A - (i + 1) = m by omega]
    omega⟩
 have f2 := h2;try simp only [bl] at f2
 refine qq (qc (qc (qp rfl (tC (sR ?_)))));refine oV ?_;refine nE ?_;refine ret1 rfl rfl ?_;refine qg ?_; rw [show lowL A - i = 0 by omega,pre,pre] at hF; rw [show val A = val B by omega,qck]
theorem qvs (va vb : Value) (A B : List Nat) {I : Hp} (ha : Ws I va A) (hb : Ws I vb B) (hs : A.length ≤ 100000000) (hs2 : B.length ≤ 100000000) : Fun prog 149 [va,vb] I [] (fun v I' _ => Ws I' v (natW (val A + val B))) := by
 intro w hw
 refine qv _ func149 rfl ntmps149 rfl ?_ hw;refine sR ?_;refine oV ?_;refine nS ?_;refine oV ?_;refine vj trivial rfl underlying46 rfl (ha) ?_;refine oV ?_;refine vj trivial rfl underlying46 rfl (hb) ?_;refine zq trivial rfl rfl rfl ?_;refine oV ?_;refine oN (tC (cS ?_))
 obtain ⟨N,hN⟩ : ∃ N : Nat,max (A.length : Int) (B.length : Int) = N := ⟨max A.length B.length,by omega⟩
 rw [hN]
 have hNa : A.length ≤ N := by omega
 have hNb : B.length ≤ N := by omega
 refine cR ?_;refine oV ?_
 (refine qf trivial rfl rfl rfl ?_ ?_; (omega))
 refine qbu trivial rfl underlying46 qa1 rfl rfl (by omega) (by omega) (by (unfold maxLen; omega)) (fun b15 => ?_);refine oV ?_;refine oN (tC (cS (cS ?_)))
 rw [show ((N : Int) + 1).toNat = N + 1 by omega,qbh]
 refine cR ?_;iterate 2 refine oV ?_
 refine oN (tC (cB ?_));refine qu (ι := Nat × List Nat) [0,1,5,6,16] (.cons rfl (.cons rfl (.cons rfl (.cons rfl (.cons rfl .nil))))) (fun x => N - x.1) (fun x E0 => (17,.int .i64 (x.1 : Int)) :: E0) (fun x => St w [] I [.box b15 (.cells (wl x.2).toArray 83 (0,0))]) (fun x => x.1 ≤ N ∧ Wds x.2 ∧ x.2.length = N + 1 ∧ pre x.2 x.1 + 4294967296 ^ x.1 * dg x.2 N = pre A x.1 + pre B x.1) ((0,List.replicate (N + 1) 0)) (sC rfl (sC rfl (sC rfl (sC rfl (sC rfl (sC rfl sN)))))) (fun _ h => h) (⟨Nat.zero_le _,qby _,List.length_replicate,by simp only [pre,qi7]⟩) ?_;rintro ⟨i,O⟩ ⟨hi,hO,hl,hF⟩
 try dsimp only
 simp only at hi hO hl hF; have hdA := yz ha.wds i; have hdB := yz hb.wds i; have hdN := yz hO N
 refine sR ?_;refine oV ?_;refine oN (tC (cS ?_));refine cC rfl (fun h1 => ?_) (fun h1 => ?_)
 ·
  have f1 := h1;try simp only [bl] at f1
  refine cK (tC (cS (cB (sR ?_))));iterate 2 refine oV ?_
  refine nT ?_;refine yb (m := 22) [] (by repeat constructor) (by kernel_rfl) rfl ?_;refine qT (i := 0) (qB 22 1) (Hp.Le.refl _) rfl rfl (oV qF) ?_;refine qT (i := 1) (qB 22 3) (Hp.Le.refl _) rfl rfl (oV qF) ?_;refine qT (i := 2) (qB 22 7) (Hp.Le.refl _) rfl rfl (oV qF) ?_;refine qT (i := 3) (qB 22 15) (Hp.Le.refl _) rfl rfl (oV qF) ?_;refine qT (i := 4) (qB 22 31) (Hp.Le.refl _) rfl rfl (oV qF) ?_;refine qT (i := 5) (qB 22 63) (Hp.Le.refl _) rfl rfl (oV qF) ?_;refine qT (i := 7) (qB 22 191) (Hp.Le.refl _) rfl rfl (oV qF) ?_;refine qT (i := 8) (qB 22 447) (Hp.Le.refl _) rfl rfl (oV qF) ?_;refine qT (i := 10) (qB 22 1471) (Hp.Le.refl _) rfl rfl (oV qF) ?_;refine qT (i := 11) (qB 22 3519) (Hp.Le.refl _) rfl rfl (oV qF) ?_;refine qT (i := 12) (qB 22 7615) (Hp.Le.refl _) rfl rfl (yt trivial rfl underlying46 sizeOf83 rfl rfl (by omega) qF) ?_;refine h_go [6,13] (by kernel_rfl) rfl (TWHs.cons ?_ (TWHs.cons ?_ TWHs.nil))
  ·
   refine qP (qB 22 7679) rfl ?_;refine oQ call158 rfl (qd7 _ _ i ha) ?_;refine qM (Hp.Le.refl _) ?_;refine h_go [9,13] (by kernel_rfl) rfl (TWHs.cons ?_ (TWHs.cons ?_ TWHs.nil))
   ·
    refine qP (qB 22 8191) rfl ?_;refine oQ call158 rfl (qd7 _ _ i hb) ?_;refine qM (Hp.Le.refl _) ?_;refine qO (i := 13) (qB 22 16383) rfl ?_;refine qax trivial rfl isAgg83 rfl (by repeat constructor) ((by rw [show (0 + (N : Int).toNat * 1) = N by omega]; exact qfj (by omega))) ?_;refine qM (Hp.Le.refl _) ?_;refine qO (i := 14) (qB 22 32767) rfl ?_;refine oQ call159 rfl (qjh _ _ _ hdA hdB hdN) ?_;refine qM (Hp.Le.refl _) ?_;refine qT (i := 15) (qB 22 65535) (Hp.Le.refl _) rfl rfl (oV qF) ?_;refine qT (i := 16) (qB 22 131071) (Hp.Le.refl _) rfl rfl (oV qF) ?_;refine qT (i := 17) (qB 22 262143) (Hp.Le.refl _) rfl rfl (oV qF) ?_;refine qT (i := 18) (qB 22 524287) (Hp.Le.refl _) rfl rfl (yt trivial rfl underlying46 sizeOf83 rfl rfl (by omega) qF) ?_;refine qO (i := 19) (qB 22 1048575) rfl ?_;refine qz trivial rfl rfl rfl sizeOf83 rfl (by repeat constructor) (by rw [zu]; omega) ?_;refine qM (Hp.Le.refl _) ?_;refine qT (i := 20) (qB 22 2097151) (Hp.Le.refl _) rfl rfl (yt trivial rfl underlying46 sizeOf83 rfl rfl (by omega) qF) ?_;refine qO (i := 21) (qB 22 4194303) rfl ?_;refine qz trivial rfl rfl rfl sizeOf83 rfl (by repeat constructor) (by rw [List.length_set,zu]; omega) ?_;refine qM (Hp.Le.refl _) ?_;refine qn (by kernel_rfl) ?_;refine qe (tC (cR ?_))
    (refine qf trivial rfl rfl rfl ?_ ?_; (omega))
    refine oV ?_;refine oN ?_;exact qj (i + 1,(O.set i ((dg A i + dg B i + dg O N) % 4294967296)).set N ((dg A i + dg B i + dg O N) / 4294967296)) (sC rfl (sC rfl (sC rfl (sC rfl (sC rfl (sC rfl sN)))))) (fun _ h => h.wl2 i N ((dg A i + dg B i + dg O N) % 4294967296) ((dg A i + dg B i + dg O N) / 4294967296) (by omega) (by omega)) (by show N - (i + 1) < N - i; omega) ⟨by show i + 1 ≤ N; omega,(hO.set (by omega)).set (by omega),by simp only [List.length_set]; exact hl,qiz hl (by omega) hF (by omega)⟩
   refine qP (qB 22 15871) rfl ?_;refine qax trivial rfl isAgg83 rfl (by repeat constructor) ((by rw [show (0 + (N : Int).toNat * 1) = N by omega]; exact qfj (by omega))) ?_;refine qM (Hp.Le.refl _) ?_;refine qO (i := 9) (qB 22 16383) rfl ?_;refine oQ call158 rfl (qd7 _ _ i hb) ?_;refine qM (Hp.Le.refl _) ?_;refine qO (i := 14) (qB 22 32767) rfl ?_;refine oQ call159 rfl (qjh _ _ _ hdA hdB hdN) ?_;refine qM (Hp.Le.refl _) ?_;refine qT (i := 15) (qB 22 65535) (Hp.Le.refl _) rfl rfl (oV qF) ?_;refine qT (i := 16) (qB 22 131071) (Hp.Le.refl _) rfl rfl (oV qF) ?_;refine qT (i := 17) (qB 22 262143) (Hp.Le.refl _) rfl rfl (oV qF) ?_;refine qT (i := 18) (qB 22 524287) (Hp.Le.refl _) rfl rfl (yt trivial rfl underlying46 sizeOf83 rfl rfl (by omega) qF) ?_;refine qO (i := 19) (qB 22 1048575) rfl ?_;refine qz trivial rfl rfl rfl sizeOf83 rfl (by repeat constructor) (by rw [zu]; omega) ?_;refine qM (Hp.Le.refl _) ?_;refine qT (i := 20) (qB 22 2097151) (Hp.Le.refl _) rfl rfl (yt trivial rfl underlying46 sizeOf83 rfl rfl (by omega) qF) ?_;refine qO (i := 21) (qB 22 4194303) rfl ?_;refine qz trivial rfl rfl rfl sizeOf83 rfl (by repeat constructor) (by rw [List.length_set,zu]; omega) ?_;refine qM (Hp.Le.refl _) ?_;refine qn (by kernel_rfl) ?_;refine qe (tC (cR ?_))
   (refine qf trivial rfl rfl rfl ?_ ?_; (omega))
   refine oV ?_;refine oN ?_;exact qj (i + 1,(O.set i ((dg A i + dg B i + dg O N) % 4294967296)).set N ((dg A i + dg B i + dg O N) / 4294967296)) (sC rfl (sC rfl (sC rfl (sC rfl (sC rfl (sC rfl sN)))))) (fun _ h => h.wl2 i N ((dg A i + dg B i + dg O N) % 4294967296) ((dg A i + dg B i + dg O N) / 4294967296) (by omega) (by omega)) (by show N - (i + 1) < N - i; omega) ⟨by show i + 1 ≤ N; omega,(hO.set (by omega)).set (by omega),by simp only [List.length_set]; exact hl,qiz hl (by omega) hF (by omega)⟩
  refine qP (qB 22 15807) rfl ?_;refine qax trivial rfl isAgg83 rfl (by repeat constructor) ((by rw [show (0 + (N : Int).toNat * 1) = N by omega]; exact qfj (by omega))) ?_;refine qM (Hp.Le.refl _) ?_;refine qO (i := 6) (qB 22 15871) rfl ?_;refine oQ call158 rfl (qd7 _ _ i ha) ?_;refine qM (Hp.Le.refl _) ?_;refine qO (i := 9) (qB 22 16383) rfl ?_;refine oQ call158 rfl (qd7 _ _ i hb) ?_;refine qM (Hp.Le.refl _) ?_;refine qO (i := 14) (qB 22 32767) rfl ?_;refine oQ call159 rfl (qjh _ _ _ hdA hdB hdN) ?_;refine qM (Hp.Le.refl _) ?_;refine qT (i := 15) (qB 22 65535) (Hp.Le.refl _) rfl rfl (oV qF) ?_;refine qT (i := 16) (qB 22 131071) (Hp.Le.refl _) rfl rfl (oV qF) ?_;refine qT (i := 17) (qB 22 262143) (Hp.Le.refl _) rfl rfl (oV qF) ?_;refine qT (i := 18) (qB 22 524287) (Hp.Le.refl _) rfl rfl (yt trivial rfl underlying46 sizeOf83 rfl rfl (by omega) qF) ?_;refine qO (i := 19) (qB 22 1048575) rfl ?_;refine qz trivial rfl rfl rfl sizeOf83 rfl (by repeat constructor) (by rw [zu]; omega) ?_;refine qM (Hp.Le.refl _) ?_;refine qT (i := 20) (qB 22 2097151) (Hp.Le.refl _) rfl rfl (yt trivial rfl underlying46 sizeOf83 rfl rfl (by omega) qF) ?_;refine qO (i := 21) (qB 22 4194303) rfl ?_;refine qz trivial rfl rfl rfl sizeOf83 rfl (by repeat constructor) (by rw [List.length_set,zu]; omega) ?_;refine qM (Hp.Le.refl _) ?_;refine qn (by kernel_rfl) ?_;refine qe (tC (cR ?_))
  (refine qf trivial rfl rfl rfl ?_ ?_; (omega))
  refine oV ?_;refine oN ?_;exact qj (i + 1,(O.set i ((dg A i + dg B i + dg O N) % 4294967296)).set N ((dg A i + dg B i + dg O N) / 4294967296)) (sC rfl (sC rfl (sC rfl (sC rfl (sC rfl (sC rfl sN)))))) (fun _ h => h.wl2 i N ((dg A i + dg B i + dg O N) % 4294967296) ((dg A i + dg B i + dg O N) / 4294967296) (by omega) (by omega)) (by show N - (i + 1) < N - i; omega) ⟨by show i + 1 ≤ N; omega,(hO.set (by omega)).set (by omega),by simp only [List.length_set]; exact hl,qiz hl (by omega) hF (by omega)⟩
 have f1 := h1;try simp only [bl] at f1
 refine qq (qc (qc (qp rfl (tC (cS ?_)))))
 have hiN : i = N := by omega
 subst hiN
 have hv : val O = val A + val B := by
   have e1 : val O = pre O (i + 1) := (zj (by omega)).symm
   rw [zj hNa,zj hNb] at hF
   rw [e1,pre,Nat.mul_comm,hF]
 refine qd5 O Take.here hO (by unfold maxLen; omega) (fun I1 hx1 hs1 => ?_)
 rw [hl] at hs1
 refine cR ?_;refine oV ?_;refine oI call98 rfl (qam _ _ hs1 (by omega)) ?_;rintro _ I2 hx2 hs2;refine oV ?_;refine nE ?_;refine ret1 rfl rfl ?_;refine leaf (hx1.trans hx2 (Nat.le_refl _)) (List.nil_sublist _) ?_; rw [hv] at hs2; exact hs2
theorem qjk (va vb : Value) (A B : List Nat) {I : Hp} (ha : Ws I va A) (hb : Ws I vb B) (hs : A.length ≤ 100000000) (hs2 : B.length ≤ 100000000) : Fun prog 147 [va,vb] I [] (fun v I' _ => ∃ u,v = .tuple #[u,.bool (decide (val B ≤ val A))] ∧ (val B ≤ val A → Ws I' u (natW (val A - val B)))) := by
 have hle : lowL A ≤ A.length := qal A A.length
 intro w hw
 refine qv _ func147 rfl ntmps147 rfl ?_ hw;refine sR ?_;iterate 2 refine oV ?_
 refine nU ?_;iterate 2 refine oV ?_
 refine oQ call155 rfl (qnj _ _ _ _ ha hb (by omega) (by omega)) ?_;refine oV ?_;refine nT ?_;refine cC rfl (fun h1 => ?_) (fun h1 => ?_)
 ·
  have f1 := h1;try simp only [bl] at f1
  have hlt : val A < val B := by
    rcases Nat.lt_trichotomy (val A) (val B) with h9 | h9 | h9
    · exact h9
    · rw [h9,qck] at f1; omega
    · rw [qd8 (by omega)] at f1; omega
  refine sR ?_;iterate 2 refine oV ?_
  refine nF ?_;refine ret2 rfl rfl rfl ?_;refine qg ⟨.slice none 0 0,?_,fun h => absurd h (by omega)⟩; rw [decide_eq_false (by omega)]
 have f1 := h1;try simp only [bl] at f1
 have hge : val B ≤ val A := by
   rcases Nat.lt_or_ge (val A) (val B) with h9 | h9
   · rw [qcj (by omega)] at f1; omega
   · exact h9
 refine kS ?_;refine oV ?_;refine oQ call126 rfl (qc8 _ _ ha (by omega)) ?_;refine oV ?_;refine nS ?_;refine oV ?_;refine qbu trivial rfl underlying46 qa1 rfl rfl (by omega) (by omega) (by (unfold maxLen; omega)) (fun b17 => ?_);refine oV ?_;refine oN (tC (cS ?_))
 rw [Int.toNat_natCast,qbh]
 refine cR ?_;refine oV ?_;refine nU ?_;iterate 2 refine oV ?_
 refine oN (tC (cB ?_));refine qu (ι := Nat × List Nat × Nat) [0,1,7,18] (.cons rfl (.cons rfl (.cons rfl (.cons rfl .nil)))) (fun x => lowL A - x.1) (fun x E0 => (8,.int .u32 (x.2.2 : Int)) :: (19,.int .i64 (x.1 : Int)) :: E0) (fun x => St w [] I [.box b17 (.cells (wl x.2.1).toArray 83 (0,0))]) (fun x => x.1 ≤ lowL A ∧ Wds x.2.1 ∧ x.2.1.length = lowL A ∧ x.2.2 < 4294967296 ∧ pre x.2.1 x.1 + pre B x.1 = pre A x.1 + 4294967296 ^ x.1 * x.2.2) ((0,List.replicate (lowL A) 0,0)) (sC rfl (sC rfl (sC rfl (sC rfl (sC rfl (sC rfl sN)))))) (fun _ h => h) (⟨Nat.zero_le _,qby _,List.length_replicate,(show 0 < 4294967296 by decide),by simp only [pre,Nat.mul_zero]⟩) ?_;rintro ⟨i,O,c⟩ ⟨hi,hO,hl,hc,hF⟩
 try dsimp only
 simp only at hi hO hl hc hF; have hdA := yz ha.wds i; have hdB := yz hb.wds i
 refine sR ?_;refine oV ?_;refine oN (tC (cS ?_));refine cC rfl (fun h2 => ?_) (fun h2 => ?_)
 ·
  have f2 := h2;try simp only [bl] at f2
  refine cK (tC (cS (cB (sR ?_))));iterate 2 refine oV ?_
  refine nT ?_;refine yb (m := 17) [] (by repeat constructor) (by kernel_rfl) rfl ?_;refine qT (i := 0) (qB 17 1) (Hp.Le.refl _) rfl rfl (oV qF) ?_;refine qT (i := 1) (qB 17 3) (Hp.Le.refl _) rfl rfl (oV qF) ?_;refine qT (i := 2) (qB 17 7) (Hp.Le.refl _) rfl rfl (oV qF) ?_;refine qT (i := 3) (qB 17 15) (Hp.Le.refl _) rfl rfl (oV qF) ?_;refine qT (i := 4) (qB 17 31) (Hp.Le.refl _) rfl rfl (y4 trivial rfl underlying46 sizeOf83 rfl (ha) rfl (by omega) qF) ?_;refine qT (i := 5) (qB 17 63) (Hp.Le.refl _) rfl rfl (q8 trivial rfl isAgg83 rfl (ha.cellI (k := i) (by omega) (by omega)) qF) ?_;refine qT (i := 6) (qB 17 127) (Hp.Le.refl _) rfl rfl (oV qF) ?_;refine qT (i := 7) (qB 17 255) (Hp.Le.refl _) rfl rfl (oV qF) ?_;refine qT (i := 9) (qB 17 767) (Hp.Le.refl _) rfl rfl (oV qF) ?_;refine qO (i := 8) (qB 17 1023) rfl ?_;refine oQ call158 rfl (qd7 _ _ i hb) ?_;refine qM (Hp.Le.refl _) ?_;refine qO (i := 10) (qB 17 2047) rfl ?_;refine qff trivial rfl call157 rfl (qvf _ _ _ hdA hdB hc) ?_;rintro _ ⟨s,k,rfl,hs1,hk1,hsk⟩;refine qM (Hp.Le.refl _) ?_;refine qT (i := 11) (qB 17 4095) (Hp.Le.refl _) rfl rfl (oV qF) ?_;refine qT (i := 12) (qB 17 8191) (Hp.Le.refl _) rfl rfl (oV qF) ?_;refine qT (i := 13) (qB 17 16383) (Hp.Le.refl _) rfl rfl (oV qF) ?_;refine qT (i := 14) (qB 17 32767) (Hp.Le.refl _) rfl rfl (yt trivial rfl underlying46 sizeOf83 rfl rfl (by omega) qF) ?_;refine qO (i := 15) (qB 17 65535) rfl ?_;refine qz trivial rfl rfl rfl sizeOf83 rfl (by repeat constructor) (by rw [zu]; omega) ?_
  refine qM (Hp.Le.refl _) ?_;refine qT (i := 16) (qB 17 131071) (Hp.Le.refl _) rfl rfl (oV qF) ?_;refine qn (by kernel_rfl) ?_;refine qe (tC (cR ?_))
  (refine qf trivial rfl rfl rfl ?_ ?_; (omega))
  refine oV ?_;refine oN ?_;exact qj (i + 1,O.set i s,k) (sC rfl (sC rfl (sC rfl (sC rfl (sC rfl (sC rfl sN)))))) (fun _ h => h.wl1 i s (by omega)) (by show lowL A - (i + 1) < lowL A - i; omega) ⟨by show i + 1 ≤ lowL A; omega,hO.set hs1,by simp only [List.length_set]; exact hl,hk1,qt4 (by omega) hF (by omega)⟩
 have f2 := h2;try simp only [bl] at f2
 refine qq (qc (qc (qp rfl (tC (cS ?_)))))
 have hiN : i = lowL A := by omega
 subst hiN
 have hv : val O = val A - val B := by
   have e1 : pre O (lowL A) = val O := zj (by omega)
   have e2 : pre A (lowL A) = val A := qbv (l := A) (n := A.length)
   have e3 : pre B (lowL A) ≤ val B := qt2 _
   have e4 : val B ≤ pre B (lowL A) := by
     have e5 : lowL B ≤ lowL A := by
       rcases Nat.lt_or_ge (lowL A) (lowL B) with h9 | h9
       · have := qjj ha.wds hb.wds h9; omega
       · exact h9
     have e6 : pre B (lowL B) = val B := qbv (l := B) (n := B.length)
     have e7 := qix (l := B) e5
     omega
   have e8 := qay hO (lowL A)
   rw [e1] at hF e8
   rw [e2] at hF
   have e9 : c = 0 := by
     rcases Nat.eq_zero_or_pos c with h9 | h9
     · exact h9
     · have : 4294967296 ^ lowL A * 1 ≤ 4294967296 ^ lowL A * c := Nat.mul_le_mul_left _ h9
       rw [Nat.mul_one] at this
       generalize 4294967296 ^ lowL A * c = z1 at *
       generalize 4294967296 ^ lowL A = z2 at *
       omega
   rw [e9,Nat.mul_zero] at hF
   omega
 refine qd5 O Take.here hO (by unfold maxLen; omega) (fun I1 hx1 hs1 => ?_)
 rw [hl] at hs1
 refine cR ?_;refine oV ?_;refine oI call98 rfl (qam _ _ hs1 (by omega)) ?_;rintro _ I2 hx2 hs2;iterate 2 refine oV ?_
 refine nE ?_;refine ret2 rfl rfl rfl ?_;refine leaf (hx1.trans hx2 (Nat.le_refl _)) (List.nil_sublist _) ?_; rw [decide_eq_true hge,← hv]; exact ⟨_,rfl,fun _ => hs2⟩
theorem qvt {x w o c : Nat} (hx : x < 4294967296) (hw : w < 4294967296) (ho : o < 4294967296) (hc : c < 4294967296) : (x * w + o + c) / 4294967296 < 4294967296 := by
 have h : x * w ≤ 18446744065119617025 := Nat.mul_le_mul (show x ≤ 4294967295 by omega) (show w ≤ 4294967295 by omega)
 omega
structure Line (O0 O A : List Nat) (off w c : Nat) : Prop where
 wds : Wds O
 len : O.length = O0.length
 low : ∀ j,j < off → dg O j = dg O0 j
 high : ∀ j,off + A.length < j → dg O j = dg O0 j
 sum : pre O (off + A.length + 1) = pre O0 (off + A.length) + (val A * w + c) * 4294967296 ^ off
theorem qnk (b : Nat) (O0 : List Nat) (off k cap : Nat) (va : Value) (A : List Nat) (m c : Nat) {I : Hp} (ha : Ws I va A) (h0 : Wds O0) (hk : k = A.length + 1) (hoff : off + A.length < O0.length) (hs : O0.length ≤ 1000000000) (hm : m < 4294967296) (hc : c < 4294967296) :
   Fun prog 136 [.slice (some ⟨b,off,none⟩) k cap,va,(.int .u32 (m : Int)),.int .u32 (c : Int)] I [.box b (.cells (wl O0).toArray 83 (0,0))] (fun v I' B => v = .tuple #[] ∧ I = I' ∧ ∃ O,B = [.box b (.cells (wl O).toArray 83 (0,0))] ∧ Line O0 O A off m c) := by
 intro w hw
 refine qfd _ func136 rfl ntmps136 rfl ?_ hw;refine cS (sR ?_);refine oV ?_;refine vj trivial rfl underlying46 rfl (ha) ?_;refine oV ?_;refine oN (tC (cB ?_));refine qu (ι := Nat × List Nat × Nat) [0,1,2,10,11] (.cons rfl (.cons rfl (.cons rfl (.cons rfl (.cons rfl .nil))))) (fun x => A.length - x.1) (fun x E0 => (3,.int .u32 (x.2.2 : Int)) :: (12,.int .i64 (x.1 : Int)) :: E0) (fun x => St w _ I [.box b (.cells (wl x.2.1).toArray 83 (0,0))]) (fun x => x.1 ≤ A.length ∧ Wds x.2.1 ∧ x.2.1.length = O0.length ∧ x.2.2 < 4294967296 ∧ (∀ j,j < off → dg x.2.1 j = dg O0 j) ∧ (∀ j,off + x.1 ≤ j → dg x.2.1 j = dg O0 j) ∧ pre x.2.1 (off + x.1) + 4294967296 ^ (off + x.1) * x.2.2 = pre O0 (off + x.1) + (pre A x.1 * m + c) * 4294967296 ^ off) ((0,O0,c)) (sC rfl (sC rfl (sC rfl (sC rfl (sC rfl (sC rfl (sC rfl sN))))))) (fun _ h => h) (⟨Nat.zero_le _,h0,rfl,hc,fun _ _ => rfl,fun _ _ => rfl,by simp only [pre]; rw [Nat.add_zero,Nat.zero_mul,Nat.zero_add,Nat.mul_comm]⟩) ?_;rintro ⟨i,O,q⟩ ⟨hi,hO,hl,hq,hlow,hhigh,hF⟩
 try dsimp only
 simp only at hi hO hl hq hlow hhigh hF; have hdA := yz ha.wds i; have hdO := yz hO (off + i)
 refine sR ?_;refine oV ?_;refine oN (tC (cS ?_));refine cC rfl (fun h1 => ?_) (fun h1 => ?_)
 ·
  have f1 := h1;try simp only [bl] at f1
  refine cK (tC (cS (cB (sR ?_))));refine oV ?_;refine y4 trivial rfl underlying46 sizeOf83 rfl (ha) rfl (by omega) ?_;refine q8 trivial rfl isAgg83 rfl (ha.cellI (k := i) (by omega) (by omega)) ?_;iterate 2 refine oV ?_
  refine nR ?_;iterate 6 refine oV ?_
  refine yt trivial rfl underlying46 sizeOf83 rfl rfl (by omega) ?_;refine qax trivial rfl isAgg83 rfl (by repeat constructor) ((by rw [show (off + (i : Int).toNat * 1) = off + i by omega]; exact qfj (by omega))) ?_;refine oV ?_;refine oQ call150 rfl (qve _ _ _ _ hdA hm hdO hq) ?_;iterate 4 refine oV ?_
  refine yt trivial rfl underlying46 sizeOf83 rfl rfl (by omega) ?_;refine qz trivial rfl rfl rfl sizeOf83 rfl (by repeat constructor) (by rw [zu]; omega) ?_;refine oN (qe (tC (cR ?_)))
  (refine qf trivial rfl rfl rfl ?_ ?_; (omega))
  refine oV ?_;refine oN ?_
  exact qj (i + 1, O.set (off + i) ((dg A i * m + dg O (off + i) + q) % 4294967296), (dg A i * m + dg O (off + i) + q) / 4294967296) (sC rfl (sC rfl (sC rfl (sC rfl (sC rfl (sC rfl (sC rfl sN))))))) (fun _ h => h.wl1 (off + i) _ (by omega)) (by show A.length - (i + 1) < A.length - i; omega) ⟨by show i + 1 ≤ A.length; omega, hO.set (Nat.mod_lt _ (by decide)), by simp only [List.length_set]; exact hl, qvt hdA hm hdO hq, fun j hj => by rw [qcd (by omega), if_neg (by omega)]; exact hlow j hj, fun j hj => by
    have hj' : off + (i + 1) ≤ j := hj
    rw [qcd (by omega),if_neg (by omega)]; exact hhigh j (by omega),qt5 (by omega) (hhigh _ (Nat.le_refl _)) hF (Nat.mod_add_div _ _)⟩
 have f1 := h1;try simp only [bl] at f1
 refine qq (qc (qc (qp rfl (tC ?_))))
 have hiN : i = A.length := by omega
 subst hiN
 refine cR ?_;iterate 2 refine oV ?_
 refine vj trivial rfl underlying46 rfl (ha) ?_;refine oV ?_;refine yt trivial rfl underlying46 sizeOf83 rfl rfl (by omega) ?_;refine qz trivial rfl rfl rfl sizeOf83 rfl (by repeat constructor) (by rw [zu]; omega) ?_;refine oN ?_;refine ret0 rfl ?_;exact fun w' hw' => ⟨I,[.box b (.cells (wl (O.set (off + A.length) q)).toArray 83 (0,0))],hw'.wl1 (off + A.length) q (by omega),Ext.refl _ _,rfl,rfl,_,rfl,hO.set hq,by rw [List.length_set]; exact hl,fun j hj => by rw [qcd (by omega),if_neg (by omega)]; exact hlow j hj,fun j hj => by rw [qcd (by omega),if_neg (by omega)]; exact hhigh j (by omega),qt6 (by omega) hF⟩
theorem qnl (va : Value) (A : List Nat) (m c : Nat) {I : Hp} (ha : Ws I va A) (hs : A.length ≤ 100000000) (hm : m < 4294967296) (hc : c < 4294967296) : Fun prog 145 [va,.int .u32 (m : Int),.int .u32 (c : Int)] I [] (fun v I' _ => Ws I' v (natW (val A * m + c))) := by
 intro w hw
 refine j5 _ func145 rfl ntmps145 rfl ?_ hw;refine sR ?_;refine oV ?_;refine nS ?_;refine oV ?_;refine vj trivial rfl underlying46 rfl (ha) ?_
 (refine qf trivial rfl rfl rfl ?_ ?_; (omega))
 refine qbu trivial rfl underlying46 qa1 rfl rfl (by omega) (by omega) (by (unfold maxLen; omega)) (fun b11 => ?_);refine oV ?_;refine oN (tC (cS ?_))
 rw [show ((A.length : Int) + 1).toNat = A.length + 1 by omega,qbh]
 refine cR ?_;iterate 4 refine oV ?_
 refine oC trivial rfl call136 rfl (qnk b11 (List.replicate (A.length + 1) 0) 0 (A.length + 1) (A.length + 1) va A m c ha (qby _) rfl (by rw [List.length_replicate]; omega) (by rw [List.length_replicate]; omega) hm hc) (by repeat constructor) ?_;rintro _ _ _ hx1 ⟨rfl,rfl,O,rfl,hL⟩;refine oN (tC (cS ?_))
 have hl : O.length = A.length + 1 := by rw [hL.len,List.length_replicate]
 have hv : val O = val A * m + c := by
   have e := hL.sum
   rw [qmw,Nat.zero_add,Nat.pow_zero,Nat.mul_one,Nat.zero_add] at e
   rw [← e]; exact (zj (by omega)).symm
 refine qd5 O Take.here hL.wds (by unfold maxLen; omega) (fun I1 hx1 hs1 => ?_)
 rw [hl] at hs1
 refine cR ?_;refine oV ?_;refine oI call98 rfl (qam _ _ hs1 (by omega)) ?_;rintro _ I2 hx2 hs2;refine oV ?_;refine nE ?_;refine ret1 rfl rfl ?_;refine leaf (hx1.trans hx2 (Nat.le_refl _)) (List.nil_sublist _) ?_; rw [hv] at hs2; exact hs2
theorem qfq (va vb : Value) (A B : List Nat) {I : Hp} (ha : Ws I va A) (hb : Ws I vb B) (hs : A.length ≤ 100000000) (hs2 : B.length ≤ 100000000) : Fun prog 110 [va,vb] I [] (fun v I' _ => Ws I' v (natW (val A * val B))) := by
 intro w hw
 refine qv _ func110 rfl ntmps110 rfl ?_ hw;refine sR ?_;refine oV ?_;refine nS ?_;refine oV ?_;refine vj trivial rfl underlying46 rfl (ha) ?_;refine oV ?_;refine vj trivial rfl underlying46 rfl (hb) ?_
 (refine qf trivial rfl rfl rfl ?_ ?_; (omega))
 (refine qf trivial rfl rfl rfl ?_ ?_; (omega))
 refine qbu trivial rfl underlying46 qa1 rfl rfl (by omega) (by omega) (by (unfold maxLen; omega)) (fun b15 => ?_);refine oV ?_;refine oN (tC (cS (cS ?_)))
 rw [show ((A.length : Int) + (B.length : Int) + 1).toNat = A.length + B.length + 1 by omega,qbh]
 refine cR ?_;refine oV ?_;refine vj trivial rfl underlying46 rfl (hb) ?_;refine oV ?_;refine oN (tC (cB ?_));refine qu (ι := Nat × List Nat) [0,5,16,17] (.cons rfl (.cons rfl (.cons rfl (.cons rfl .nil)))) (fun x => B.length - x.1) (fun x E0 => (18,.int .i64 (x.1 : Int)) :: E0) (fun x => St w [] I [.box b15 (.cells (wl x.2).toArray 83 (0,0))]) (fun x => x.1 ≤ B.length ∧ Wds x.2 ∧ x.2.length = A.length + B.length + 1 ∧ pre x.2 (A.length + x.1) = val A * pre B x.1 ∧ ∀ j,A.length + x.1 ≤ j → dg x.2 j = 0) ((0,List.replicate (A.length + B.length + 1) 0)) (sC rfl (sC rfl (sC rfl (sC rfl (sC rfl sN))))) (fun _ h => h) (⟨Nat.zero_le _,qby _,List.length_replicate,by simp only [qmw]; rfl,fun j _ => qi7 _ j⟩) ?_;rintro ⟨i,O⟩ ⟨hi,hO,hl,hF,hz⟩
 try dsimp only
 simp only at hi hO hl hF hz; have hdB := yz hb.wds i
 refine sR ?_;refine oV ?_;refine oN (tC (cS ?_));refine cC rfl (fun h1 => ?_) (fun h1 => ?_)
 ·
  have f1 := h1;try simp only [bl] at f1
  refine cK (tC (cS (cB (sR ?_))));refine oV ?_;refine y4 trivial rfl underlying46 sizeOf83 rfl (hb) rfl (by omega) ?_;refine q8 trivial rfl isAgg83 rfl (hb.cellI (k := i) (by omega) (by omega)) ?_;iterate 2 refine oV ?_
  refine nS ?_;iterate 2 refine oV ?_
  refine vj trivial rfl underlying46 rfl (ha) ?_
  (refine qf trivial rfl rfl rfl ?_ ?_; (omega))
  (refine qf trivial rfl rfl rfl ?_ ?_; (omega))
  refine oV ?_;refine nR ?_;iterate 4 refine oV ?_
  refine qt0 trivial rfl underlying46 sizeOf83 rfl rfl rfl rfl (by omega) ?_
  rw [show 0 + (i : Int).toNat * 1 = i by omega,show ((i : Int) + (A.length : Int) + 1).toNat - (i : Int).toNat = A.length + 1 by omega]
  iterate 2 refine oV ?_
  refine oC trivial rfl call136 rfl (qnk b15 O i (A.length + 1) (A.length + 1) va A (dg B i) 0 ha hO rfl (by omega) (by omega) hdB (by decide)) (by repeat constructor) ?_;rintro _ _ _ hx1 ⟨rfl,rfl,O',rfl,hL⟩;refine oN (qe (tC (cR ?_)))
  (refine qf trivial rfl rfl rfl ?_ ?_; (omega))
  refine oV ?_;refine oN ?_
  exact qj (i + 1, O') (sC rfl (sC rfl (sC rfl (sC rfl (sC rfl sN))))) (fun _ h => h) (by show B.length - (i + 1) < B.length - i; omega) ⟨by show i + 1 ≤ B.length; omega, hL.wds, by rw [hL.len]; exact hl, by
    have e := hL.sum
    rw [Nat.add_comm i,hF,Nat.add_zero] at e
    show pre O' (A.length + (i + 1)) = val A * pre B (i + 1)
    rw [← Nat.add_assoc,e,pre,Nat.add_zero,Nat.mul_add,Nat.mul_assoc],fun j hj => by
    have hj' : A.length + (i + 1) ≤ j := hj
    rw [hL.high j (by omega)]; exact hz j (by omega)⟩
 have f1 := h1;try simp only [bl] at f1
 refine qq (qc (qc (qp rfl (tC (cS ?_)))))
 have hiN : i = B.length := by omega
 subst hiN
 have hv : val O = val A * val B := by
   have e1 : val O = pre O (A.length + B.length + 1) := (zj (by omega)).symm
   rw [e1,pre,hF,hz _ (Nat.le_refl _),Nat.zero_mul,Nat.add_zero]; rfl
 refine qd5 O Take.here hO (by unfold maxLen; omega) (fun I1 hx1 hs1 => ?_)
 rw [hl] at hs1
 refine cR ?_;refine oV ?_;refine oI call98 rfl (qam _ _ hs1 (by omega)) ?_;rintro _ I2 hx2 hs2;refine oV ?_;refine nE ?_;refine ret1 rfl rfl ?_;refine leaf (hx1.trans hx2 (Nat.le_refl _)) (List.nil_sublist _) ?_; rw [hv] at hs2; exact hs2
theorem qa2 {n k m : Nat} (h : n < 4294967296 ^ k) (hm : k ≤ m) : (natW n).length ≤ m := Nat.le_trans (zt h) hm
theorem qvu {a k : Nat} (h : a < 4294967296 ^ k) (i : Nat) : (natW (a ^ i)).length ≤ k * i + 1 := by
 refine zt ?_
 rcases Nat.eq_zero_or_pos i with h0 | h0
 · subst h0; rw [Nat.pow_zero,Nat.mul_zero,Nat.zero_add]; decide
 · have h1 : a ^ i < (4294967296 ^ k) ^ i := Nat.pow_lt_pow_left h (by omega)
   rw [← Nat.pow_mul] at h1
   exact Nat.lt_of_lt_of_le h1 (Nat.pow_le_pow_right (by decide) (by omega))
theorem qvv {a n : Nat} (h : a ≤ 1) : a ^ min n 1 = a ^ n := by
 rcases Nat.eq_zero_or_pos n with h0 | h0
 · subst h0; rfl
 · rw [Nat.min_eq_right h0, Nat.pow_one]
   rcases (by omega : a = 0 ∨ a = 1) with h1 | h1
   · subst h1; exact (Nat.zero_pow h0).symm
   · subst h1; exact (Nat.one_pow n).symm
theorem qvw {n : Nat} : 1 < bitZ n ↔ 1 < n := by
 constructor
 · intro h
   have h0 : n ≠ 0 := fun e => by subst e; simp [bitZ] at h
   have := qg1 h0
   have h2 : 2 ^ 1 ≤ 2 ^ (bitZ n - 1) := Nat.pow_le_pow_right (by decide) (by omega)
   omega
 · intro h
   have := qi4 n
   rcases Nat.lt_or_ge 1 (bitZ n) with h1 | h1
   · exact h1
   · have h2 : 2 ^ bitZ n ≤ 2 ^ 1 := Nat.pow_le_pow_right (by decide) h1
     omega
theorem qjl (va : Value) (A : List Nat) (m : Nat) {I : Hp} (ha : Ws I va A) (hs : A.length ≤ 4096) (hm : m ≤ 64) (hsm : A.length * m ≤ 4096) : Fun prog 112 [va,.int .i64 (m : Int)] I [] (fun v I' _ => ∃ u,v = .tuple #[u,.bool true] ∧ Ws I' u (natW (val A ^ m))) := by
 have hle : lowL A ≤ A.length := qal A A.length
 have hb := qvw (n := val A)
 have hlt := y0 ha.wds
 have hcut : Ws I (jp va 0 (lowL A) 1) (natW (val A)) := by
   have h := ha.cut (lo := 0) (hi := lowL A) (Nat.zero_le _) hle
   rw [List.drop_zero,qc5 ha.wds] at h
   exact h
 have hnl : (natW (val A)).length ≤ 4096 := by rw [← qd3 ha.wds]; omega
 have hlm : lowL A * m ≤ 4096 := Nat.le_trans (Nat.mul_le_mul_right _ hle) hsm
 intro w hw
 refine qv _ func112 rfl ntmps112 rfl ?_ hw;refine sR ?_;iterate 2 refine oV ?_
 refine nS ?_;refine oV ?_;refine oQ call126 rfl (qc8 _ _ ha (by omega)) ?_;refine oV ?_;refine nS ?_;refine oV ?_;refine oQ call95 rfl (qfp _ _ ha (by omega)) ?_;iterate 2 refine oV ?_
 refine nU ?_;iterate 2 refine oV ?_
 refine' oZ (fun hb16 => ?_) ?_;rotate_left
 ·
  have fb16 := hb16
  try simp only [bl] at fb16
  refine gV hb16 ?_;refine' qca (wS rfl rfl hb16) (wS rfl rfl hb16) rfl rfl rfl rfl rfl rfl rfl rfl (fun hb18 => ?_) ?_;rotate_left
  ·
   have fb18 := hb18
   try simp only [bl] at fb18
   iterate 2 refine gV hb18 ?_
   have hpos : lowL A ≠ 0 := fun e => by
     have := (qiy ha.wds).1 e
     omega
   have hq1 : (0 : Int) ≤ 4096 / (lowL A : Int) := Int.ediv_nonneg (by decide) (by omega)
   have hq2 : (4096 : Int) / (lowL A : Int) ≤ 4096 := Int.ediv_le_self _ (by decide)
   refine qcb (wS rfl rfl hb18) rfl rfl rfl (by omega) (by rw [IntWalk.i64_in _ (by omega)]) ?_;refine gV hb18 ?_;refine oN ?_;exact qa rfl
  refine oN ?_;exact qa rfl
 refine nT ?_;refine cC rfl (fun h1 => ?_) (fun h1 => ?_)
 ·
  have f1 := h1;try simp only [bl] at f1
  exfalso
  rcases f1 with f1 | f1
  · omega
  · have hpos : lowL A ≠ 0 := fun e => by
      have := (qiy ha.wds).1 e
      omega
    have : (m : Int) ≤ 4096 / (lowL A : Int) := Int.le_ediv_of_mul_le (by omega) (by have h9 := Int.ofNat_le.2 hlm; rw [Int.natCast_mul,Int.mul_comm] at h9; exact h9)
    omega
 have f1 := h1;try simp only [bl] at f1
 refine cK (tC ?_);refine jk (ι := Nat) [0,6] (.cons rfl (.cons rfl .nil)) (fun x E0 => (1,.int .i64 (x : Int)) :: E0) (fun x => St w [] I []) (fun x => val A ^ x = val A ^ m ∧ x ≤ m ∧ x ≤ 64) ?_ ?_
 ·
  refine sR ?_;iterate 2 refine oV ?_
  refine nT ?_;refine cC rfl (fun h2 => ?_) (fun h2 => ?_)
  ·
   have f2 := h2;try simp only [bl] at f2
   refine cR ?_;refine oV ?_;refine qgv trivial rfl rfl rfl ?_;refine oV ?_;refine oN ?_
   (exact meet (min m 1) (by rw [show ((min m 1 : Nat) : Int) = min (m : Int) 1 by omega]; exact (sC rfl (sC rfl (sC rfl sN)))) (fun _ h => h) ⟨qvv (by omega),by omega,by omega⟩)
  have f2 := h2;try simp only [bl] at f2
  refine cK ?_;exact meet m (sC rfl (sC rfl (sC rfl sN))) (fun _ h => h) ⟨rfl,Nat.le_refl _,hm⟩
 rintro e ⟨he,hem,hem4⟩
 try dsimp only
 refine sR ?_;refine oI call70 rfl (qji 1 (by decide)) ?_;rintro u1 I1 hx1 hs1;refine oV ?_;refine nU ?_;iterate 2 refine oV ?_
 refine oN (tC (cB ?_));refine qu (ι := Nat × Value × Hp) [0,6,30] (.cons rfl (.cons rfl (.cons rfl .nil))) (fun x => e - x.1) (fun x E0 => (8,x.2.1) :: (31,.int .i64 (x.1 : Int)) :: E0) (fun x => St w [] x.2.2 []) (fun x => x.1 ≤ e ∧ Ws x.2.2 x.2.1 (natW (val A ^ x.1)) ∧ Ext w.heap.size I x.2.2) ((0,u1,I1)) (sC rfl (sC rfl (sC rfl (sC rfl (sC rfl sN))))) (fun _ h => h) (⟨Nat.zero_le _,by rw [Nat.pow_zero]; exact hs1,hx1⟩) ?_;rintro ⟨i,u,I2⟩ ⟨hi,hu,hx2⟩
 try dsimp only
 simp only at hi hu hx2; have hlen := qvu hlt i; have hmul : A.length * i ≤ 4096 := Nat.le_trans (Nat.mul_le_mul_left _ (by omega)) hsm
 refine sR ?_;refine oV ?_;refine oN (tC (cS ?_));refine cC rfl (fun h3 => ?_) (fun h3 => ?_)
 ·
  have f3 := h3;try simp only [bl] at f3
  refine cK (tC (cS (cB (cR ?_))));iterate 3 refine oV ?_
  refine qmk trivial rfl underlying46 sizeOf83 rfl (ha.slc.le hx2.le) rfl (by rw [yv]; omega) ?_;refine oI call110 rfl (qfq _ _ _ _ hu (by rw [Int.toNat_natCast]; exact hcut.le hx2.le) (by omega) (by omega)) ?_;rintro u3 I3 hx3 hs3;refine oV ?_;refine oN (qe (tC (cR ?_)))
  (refine qf trivial rfl rfl rfl ?_ ?_; (omega))
  refine oV ?_;refine oN ?_;exact qj (i + 1,u3,I3) (sC rfl (sC rfl (sC rfl (sC rfl (sC rfl sN))))) (fun _ h => h) (by show e - (i + 1) < e - i; omega) ⟨by show i + 1 ≤ e; omega,by rw [qb,qb] at hs3; rw [Nat.pow_succ]; exact hs3,hx2.trans hx3 (Nat.le_refl _)⟩
 have f3 := h3;try simp only [bl] at f3
 refine qq (qc (qc (qp rfl (tC (sR ?_)))));iterate 3 refine oV ?_
 refine nE ?_;refine ret2 rfl rfl rfl ?_
 have hie : i = e := by omega
 subst hie
 refine leaf hx2 (List.nil_sublist _) ⟨u,rfl,?_⟩; rw [← he]; exact hu
theorem qg6 {a k q : Nat} (h : a < 4294967296 ^ k) (hq : q ≤ 2 ^ 31) : a * q < 4294967296 ^ (k + 1) := by
 rw [pow_succ]
 exact Nat.mul_lt_mul_of_lt_of_le h (Nat.le_trans hq (by decide)) (by decide)
theorem qnm (va : Value) (A : List Nat) (m : Nat) {I : Hp} (ha : Ws I va A) (hs : A.length ≤ 50000000) (hm : m ≤ 100000) : Fun prog 129 [va,.int .i64 (m : Int)] I [] (fun v I' _ => Ws I' v (natW (val A * 2 ^ m))) := by
 have hp1 : 2 ^ (m % 32) ≤ 2 ^ 31 := Nat.pow_le_pow_right (by decide) (by omega)
 have hp0 : 0 < 2 ^ (m % 32) := Nat.pow_pos (by decide)
 intro w hw
 refine qv _ func129 rfl ntmps129 rfl ?_ hw;refine sR ?_;refine oV ?_;refine nS ?_;refine oV ?_;refine qgv trivial rfl rfl rfl ?_;refine zq trivial rfl rfl rfl ?_;refine oV ?_;refine oN (tC (cS ?_))
 rw [show max (0 : Int) (min (m : Int) 100000) = (m : Int) by omega]
 refine cR ?_;refine oV ?_;refine qcb trivial rfl rfl rfl (by omega) (by rw [IntWalk.i64_in _ (by omega)]) ?_;refine qiu trivial rfl underlying46 qa1 rfl rfl (by omega) (by omega) (by (unfold maxLen; omega)) (fun v11 => ?_);refine oV ?_;refine oN (tC (cS ?_))
 rw [show ((m : Int) / 32).toNat = m / 32 by omega,qbh]
 refine cR ?_;iterate 3 refine oV ?_
 refine j6 trivial rfl rfl rfl (by omega) ?_
 rw [show (m : Int) % 32 = ((m % 32 : Nat) : Int) by omega]
 refine qmn (2 ^ (m % 32)) trivial rfl rfl rfl (by omega) (by rw [Int.toNat_natCast,show min (m % 32) IntKind.u32.bits = m % 32 from Nat.min_eq_left (by show m % 32 ≤ 32; omega)]) (by rw [IntWalk.u32_in _ (by omega)]) ?_
 rw [Int.one_mul]
 refine oI call145 rfl (qnl _ _ (2 ^ (m % 32)) 0 ha (by omega) (by omega) (by decide)) ?_;rintro u1 I1 hx1 hs1
 have hl1 : (natW (val A * 2 ^ (m % 32) + 0)).length ≤ A.length + 1 := qa2 (k := A.length + 1) (by rw [Nat.add_zero]; exact qg6 (y0 ha.wds) hp1) (Nat.le_refl _)
 refine qfg trivial rfl underlying46 (qbj) (by decide) rfl rfl (fun v' => (by repeat constructor)) (hs1.slc) (qg2 _) (by rw [yv]; unfold maxLen; omega) (by rw [yv]; omega) (fun v18 => ?_)
 rw [qbx,yv,← show wl (List.replicate (m / 32) 0 ++ natW (val A * 2 ^ (m % 32) + 0)) = wl (List.replicate (m / 32) 0) ++ wl (natW (val A * 2 ^ (m % 32) + 0)) from List.map_append,← qbx]
 refine qmy (xss := wcs (List.replicate (m / 32) 0 ++ natW (val A * 2 ^ (m % 32) + 0))) Take.here (by rw [yv,List.length_append,List.length_replicate]) (qfi _) (by unfold maxLen; omega) (fun I2 hx2 hs2 => ?_)
 have hw2 : Ws I2 v18 (List.replicate (m / 32) 0 ++ natW (val A * 2 ^ (m % 32) + 0)) := ⟨hs2,(qby _).app (j7 _)⟩
 refine oI call98 rfl (qam _ _ hw2 (by rw [List.length_append,List.length_replicate]; omega)) ?_;rintro u3 I3 hx3 hs3;refine oV ?_;refine nE ?_;refine ret1 rfl rfl ?_;refine leaf (hx1.trans (hx2.trans hx3 (Nat.le_refl _)) (Nat.le_refl _)) (List.nil_sublist _) ?_; rw [qi3,qb,Nat.add_zero,quf] at hs3; exact hs3
theorem qnn (va : Value) (A : List Nat) (d : Nat) {I : Hp} (ha : Ws I va A) (hs : A.length ≤ 100000000) (hd0 : 0 < d) (hd : d < 4294967296) : Fun prog 131 [va,.int .u32 (d : Int)] I [] (fun v I' _ => ∃ u,v = .tuple #[u,.int .u32 ((val A % d : Nat) : Int),.bool true] ∧ Ws I' u (natW (val A / d))) := by
 intro w hw
 refine qv _ func131 rfl ntmps131 rfl ?_ hw;refine sR ?_;iterate 3 refine oV ?_
 refine nU ?_;iterate 2 refine oV ?_
 refine nT ?_;refine cC rfl (fun h1 => ?_) (fun h1 => ?_)
 ·
  have f1 := h1;try simp only [bl] at f1
  exfalso; omega
 have f1 := h1;try simp only [bl] at f1
 refine kS ?_;refine oV ?_;refine vj trivial rfl underlying46 rfl (ha) ?_;refine qbu trivial rfl underlying46 qa1 rfl rfl (by omega) (by omega) (by (unfold maxLen; omega)) (fun b12 => ?_);refine oV ?_;refine oN (tC (cS (cS ?_)))
 rw [Int.toNat_natCast,qbh]
 refine cR ?_;refine oV ?_;refine vj trivial rfl underlying46 rfl (ha) ?_
 (refine vy trivial rfl rfl rfl ?_ ?_; (omega))
 refine oV ?_;refine oN (tC (cB ?_));refine qu (ι := Nat × List Nat × Nat) [0,1,4] (.cons rfl (.cons rfl (.cons rfl .nil))) (fun x => x.1) (fun x E0 => (5,.int .u32 (x.2.2 : Int)) :: (7,.int .i64 ((x.1 : Int) - 1)) :: E0) (fun x => St w [] I [.box b12 (.cells (wl x.2.1).toArray 83 (0,0))]) (fun x => x.1 ≤ A.length ∧ Wds x.2.1 ∧ x.2.1.length = A.length ∧ x.2.2 < d ∧ val (A.drop x.1) = val (x.2.1.drop x.1) * d + x.2.2) ((A.length,List.replicate A.length 0,0)) (sC rfl (sC rfl (sC rfl (sC rfl (sC rfl sN))))) (fun _ h => h) (⟨Nat.le_refl _,qby _,List.length_replicate,hd0,by simp only; rw [qgz (Nat.le_refl _),qgz (by rw [List.length_replicate]; exact Nat.le_refl _),Nat.zero_mul]⟩) ?_;rintro ⟨j,O,r⟩ ⟨hj,hO,hl,hr,hF⟩
 try dsimp only
 simp only at hj hO hl hr hF
 refine cS (sR ?_);iterate 2 refine oV ?_
 refine nT ?_;refine cC rfl (fun h2 => ?_) (fun h2 => ?_)
 ·
  have f2 := h2;try simp only [bl] at f2
  obtain ⟨k,rfl⟩ : ∃ k,j = k + 1 := ⟨j - 1,by omega⟩
  have hdA := yz ha.wds k
  have hdr : (r * 4294967296 + dg A k) % d < d := Nat.mod_lt _ hd0
  rw [show ((k + 1 : Nat) : Int) - 1 = (k : Int) by omega]
  refine cK (tC (cS (cB (cR ?_))));iterate 5 refine oV ?_
  refine y4 trivial rfl underlying46 sizeOf83 rfl (ha) rfl (by omega) ?_;refine q8 trivial rfl isAgg83 rfl (ha.cellI (k := k) (by omega) (by omega)) ?_;refine oV ?_;refine oQ call148 rfl (qne r (dg A k) d hr hd hdA) ?_;iterate 4 refine oV ?_
  refine yt trivial rfl underlying46 sizeOf83 rfl rfl (by omega) ?_;refine qz trivial rfl rfl rfl sizeOf83 rfl (by repeat constructor) (by rw [zu]; omega) ?_;refine oV ?_;refine oN (qe (tC (cR ?_)));refine oV ?_
  (refine vy trivial rfl rfl rfl ?_ ?_; (omega))
  refine oV ?_;refine oN ?_;exact qj (k,O.set k ((r * 4294967296 + dg A k) / d),(r * 4294967296 + dg A k) % d) (sC rfl (sC rfl (sC rfl (sC rfl (sC rfl sN))))) (fun _ h => h.wl1 k _ (by omega)) (by show k < k + 1; omega) ⟨by show k ≤ A.length; omega,hO.set (qi2 hr hdA),by simp only [List.length_set]; exact hl,hdr,qmt (by omega) (by omega) hF (Nat.div_add_mod' _ _).symm⟩
 have f2 := h2;try simp only [bl] at f2
 refine qq (qc (qc (qp rfl (tC (cS ?_)))))
 have hj0 : j = 0 := by omega
 subst hj0
 rw [List.drop_zero,List.drop_zero] at hF
 obtain ⟨e1,e2⟩ := qg0 hF hr
 refine qd5 O Take.here hO (by unfold maxLen; omega) (fun I1 hx1 hs1 => ?_)
 rw [hl] at hs1
 refine cR ?_;refine oV ?_;refine oI call98 rfl (qam _ _ hs1 (by omega)) ?_;rintro u2 I2 hx2 hs2;iterate 4 refine oV ?_
 refine nE ?_;refine ret3 rfl rfl rfl rfl ?_;refine leaf (hx1.trans hx2 (Nat.le_refl _)) (List.nil_sublist _) ⟨u2,?_,?_⟩
 · rw [← e2]
 · rw [← e1]; exact hs2
theorem qvx (va vb : Value) (R B : List Nat) {I : Hp} (ha : Ws I va R) (hb : Ws I vb B) (hs : B.length ≤ 100000000) (hn : 0 < B.length) (htop : dg B (B.length - 1) ≠ 0) (hlen : R.length ≤ B.length + 1) (hq : val R / val B < 4294967296) : Fun prog 146 [va,vb] I [] (fun v I' _ => ∃ q : Nat,v = .int .u32 (q : Int) ∧ val R / val B ≤ q ∧ q < 4294967296) := by
 obtain ⟨g1,g2⟩ := qub ha.wds hb.wds hn htop hlen
 have hdB := yz hb.wds (B.length - 1)
 have hdR := yz ha.wds (B.length - 1)
 intro w hw
 refine qv _ func146 rfl ntmps146 rfl ?_ hw;refine sR ?_;refine oV ?_;refine nS ?_;refine oV ?_;refine vj trivial rfl underlying46 rfl (hb) ?_;refine oV ?_;refine nU ?_;refine oV ?_;refine vj trivial rfl underlying46 rfl (ha) ?_;iterate 2 refine oV ?_
 refine nT ?_;refine cC rfl (fun h1 => ?_) (fun h1 => ?_)
 ·
  have f1 := h1;try simp only [bl] at f1
  refine sR ?_;refine oV ?_;refine nF ?_;refine ret1 rfl rfl ?_;refine qg ⟨0,rfl,?_,by decide⟩; rw [g1 (by omega)]; exact Nat.le_refl _
 have f1 := h1;try simp only [bl] at f1
 refine kS ?_;refine oV ?_;refine nT ?_;refine jk (ι := Unit) [0,1,5] (.cons rfl (.cons rfl (.cons rfl .nil))) (fun x E0 => (6,.int .u32 (dg R B.length : Nat)) :: E0) (fun x => St w [] I []) (fun x => True) ?_ ?_
 ·
  refine sR ?_;refine oV ?_;refine vj trivial rfl underlying46 rfl (ha) ?_;iterate 2 refine oV ?_
  refine nT ?_;refine cC rfl (fun h2 => ?_) (fun h2 => ?_)
  ·
   have f2 := h2;try simp only [bl] at f2
   refine cR ?_;iterate 2 refine oV ?_
   refine y4 trivial rfl underlying46 sizeOf83 rfl (ha) rfl (by omega) ?_;refine q8 trivial rfl isAgg83 rfl (ha.cellI (k := B.length) (by omega) (by omega)) ?_;refine oV ?_;refine oN ?_;exact meet () (sC rfl (sC rfl (sC rfl (sC rfl sN)))) (fun _ h => h) trivial
  have f2 := h2;try simp only [bl] at f2
  refine cK ?_
  (have e : dg R B.length = 0 := qbg (by omega); exact meet () (by rw [e]; exact (sC rfl (sC rfl (sC rfl (sC rfl sN))))) (fun _ h => h) trivial)
 rintro _ _
 try dsimp only
 refine cS ?_;refine jn (by kernel_rfl) (by kernel_rfl) (fun _ h => h.drawn) ?_;iterate 3 refine oV ?_
 (refine vy trivial rfl rfl rfl ?_ ?_; (omega))
 refine y4 trivial rfl underlying46 sizeOf83 rfl (ha) rfl (by omega) ?_;refine q8 trivial rfl isAgg83 rfl (ha.cellI (k := B.length - 1) (by omega) (by omega)) ?_;iterate 2 refine oV ?_
 (refine vy trivial rfl rfl rfl ?_ ?_; (omega))
 refine y4 trivial rfl underlying46 sizeOf83 rfl (hb) rfl (by omega) ?_;refine q8 trivial rfl isAgg83 rfl (hb.cellI (k := B.length - 1) (by omega) (by omega)) ?_;refine oQ call148 rfl (qvj _ _ _ hdB hdR) ?_;iterate 7 refine oV ?_
 refine nU ?_;iterate 2 refine oV ?_
 refine nT ?_;refine cC rfl (fun h3 => ?_) (fun h3 => ?_)
 ·
  have f3 := h3;try simp only [bl] at f3
  refine sR ?_;refine oV ?_;refine nF ?_;refine ret1 rfl rfl ?_;refine qg ⟨4294967295,rfl,by omega,by decide⟩
 have f3 := h3;try simp only [bl] at f3
 refine kS ?_;iterate 2 refine oV ?_
 refine nE ?_;refine ret1 rfl rfl ?_;refine qg ⟨_,rfl,?_,?_⟩
 · unfold divQ; rw [if_pos (by simpa using f3)]; exact g2
 · unfold divQ; rw [if_pos (by simpa using f3)]; exact qi2 (by simpa using f3) hdR
theorem qfr {n : Nat} (h : n ≠ 0) : 0 < (natW n).length ∧ dg (natW n) ((natW n).length - 1) ≠ 0 :=
 ⟨Nat.pos_of_ne_zero fun e => h (jh.1 e),qt3 h⟩
theorem qvy (va vb : Value) (r b : Nat) {I : Hp} (ha : Ws I va (natW r)) (hb : Ws I vb (natW b)) (hs : (natW b).length ≤ 10000000) (hb0 : 0 < b) (hr : r < b * 4294967296) : Fun prog 130 [va,vb] I [] (fun v I' _ => ∃ u,v = .tuple #[.int .u32 ((r / b : Nat) : Int),u] ∧ Ws I' u (natW (r % b))) := by
 obtain ⟨hn,htop⟩ := qfr (n := b) (by omega)
 have hbl := y0 (j7 b)
 rw [qb] at hbl
 have hlen : (natW r).length ≤ (natW b).length + 1 := qa2 (k := (natW b).length + 1) (by
   rw [pow_succ]
   exact Nat.lt_of_lt_of_le hr (Nat.mul_le_mul_right _ (Nat.le_of_lt hbl))) (Nat.le_refl _)
 have hq : r / b < 4294967296 := by rw [Nat.div_lt_iff_lt_mul hb0,Nat.mul_comm]; exact hr
 intro w hw
 refine qv _ func130 rfl ntmps130 rfl ?_ hw;refine sR ?_;iterate 2 refine oV ?_
 refine oN (tC (qun (sR ?_)));iterate 2 refine oV ?_
 refine qff trivial rfl call146 rfl (qvx _ _ _ _ ha hb (by omega) hn htop hlen (by rw [qb,qb]; exact hq)) ?_;rintro _ ⟨q0,rfl,hq1,hq2⟩;refine oV ?_;refine oN (tC (cS (qta (tC (cS (cB ?_))))));refine qu (ι := Nat × Hp) [1] (.cons rfl .nil) (fun x => x.1) (fun x E0 => (0,va) :: (6,.int .u32 (x.1 : Int)) :: E0) (fun x => St w [] x.2 []) (fun x => r / b ≤ x.1 ∧ x.1 < 4294967296 ∧ Ext w.heap.size I x.2) ((q0,I)) (sC rfl (sC rfl (sC rfl sN))) (fun _ h => h) (⟨by rw [qb,qb] at hq1; exact hq1,hq2,Ext.refl _ _⟩) ?_;rintro ⟨q,I1⟩ ⟨hqa,hqb,hx1⟩
 try dsimp only
 simp only at hqa hqb hx1
 refine cB (sR ?_);iterate 3 refine oV ?_
 refine oI call145 rfl (qnl _ _ q 0 (hb.le hx1.le) (by omega) hqb (by decide)) ?_;rintro u2 I2 hx2 hs2
 rw [qb,Nat.add_zero] at hs2
 have hl2 : (natW (b * q)).length ≤ (natW b).length + 1 := qa2 (k := (natW b).length + 1) (by rw [pow_succ]; exact Nat.mul_lt_mul_of_lt_of_le hbl (by omega) (by decide)) (Nat.le_refl _)
 refine oI call147 rfl (qjk _ _ _ _ (ha.le (hx1.le.trans hx2.le)) hs2 (by omega) (by omega)) ?_;rintro _ I3 hx3 ⟨u3,rfl,hs3⟩;iterate 5 refine oV ?_
 refine nU ?_;refine oV ?_;refine nT ?_;refine cC rfl (fun h1 => ?_) (fun h1 => ?_)
 ·
  have f1 := h1;try simp only [bl] at f1
  rw [qb,qb] at f1 hs3; obtain ⟨hh1,hh2⟩ := quc hb0 hqa f1
  refine sR ?_;iterate 2 refine oV ?_
  refine oN (tC (qq (qc (ye rfl (qc (qp rfl (tC (sR ?_))))))));iterate 4 refine oV ?_
  refine oN (tC (cT (sc_r ?_)));refine ret2 rfl rfl rfl ?_;refine leaf (hx1.trans (hx2.trans hx3 (Nat.le_refl _)) (Nat.le_refl _)) (List.nil_sublist _) ⟨u3,?_,?_⟩
  · rw [hh1]; rfl
  · rw [← hh2]; exact hs3 f1
 have f1 := h1;try simp only [bl] at f1
 rw [qb,qb] at f1; obtain ⟨hm1,hm2⟩ := qud hb0 hqa (by omega)
 refine cK (tC (cR ?_));refine oV ?_;refine qgu trivial rfl rfl rfl (by rw [IntWalk.u32_in _ (by omega)]) ?_
 rw [show (q : Int) - 1 = ((q - 1 : Nat) : Int) by omega]
 refine oV ?_;refine oN (qe ?_);exact qj (q - 1,I3) (sC rfl (sC rfl (sC rfl sN))) (fun _ h => h) (by show q - 1 < q; omega) ⟨hm1,by show q - 1 < 4294967296; omega,hx1.trans (hx2.trans hx3 (Nat.le_refl _)) (Nat.le_refl _)⟩
theorem qvz {n : Nat} (h : n < 4294967296) : dg (natW n) 0 = n := by
 have h1 : pre (natW n) 1 = n := by
   have : val (natW n) = n := qb n
   rw [zj (zt (k := 1) (by simpa using h))]; exact this
 simpa [pre] using h1
theorem qv0 {a b y q r : Nat} (hb : 0 < b) (h : a * 2 ^ y = q * (b * 2 ^ y) + r) (hr : r < b * 2 ^ y) : q = a / b ∧ r / 2 ^ y = a % b := by
 have hp : 0 < 2 ^ y := Nat.pow_pos (by decide)
 obtain ⟨h1,h2⟩ := qg0 h hr
 rw [Nat.mul_div_mul_right _ _ hp] at h1
 rw [Nat.mul_mod_mul_right] at h2
 exact ⟨h1,by rw [h2,Nat.mul_div_cancel _ hp]⟩
theorem qjm (va vb : Value) (A B : List Nat) {I : Hp} (ha : Ws I va A) (hb : Ws I vb B) (hs : A.length ≤ 2000000) (hs2 : B.length ≤ 2000000) (h0 : 0 < val B) : Fun prog 97 [va,vb] I [] (fun v I' _ => ∃ u1 u2,v = .tuple #[u1,u2,.bool true] ∧ Ws I' u1 (natW (val A / val B)) ∧ Ws I' u2 (natW (val A % val B))) := by
 obtain ⟨hn,htop⟩ := qfr (n := val B) (by omega)
 have hlB : (natW (val B)).length ≤ B.length := by rw [← qd3 hb.wds]; exact qal _ _
 have hdt := yz (j7 (val B)) ((natW (val B)).length - 1)
 have hbit : bitZ (dg (natW (val B)) ((natW (val B)).length - 1)) ≤ 32 := qd4 (by omega)
 have hbit0 : 0 < bitZ (dg (natW (val B)) ((natW (val B)).length - 1)) := Nat.pos_of_ne_zero fun e => htop (qc6.1 e)
 obtain ⟨y,hy⟩ : ∃ y,32 - bitZ (dg (natW (val B)) ((natW (val B)).length - 1)) = y := ⟨_,rfl⟩
 have hy31 : y ≤ 31 := by omega
 have hp31 : 2 ^ y ≤ 2 ^ 31 := Nat.pow_le_pow_right (by decide) hy31
 have hp0 : 0 < 2 ^ y := Nat.pow_pos (by decide)
 have hlA : (natW (val A * 2 ^ y)).length ≤ A.length + 1 := qa2 (k := A.length + 1) (qg6 (y0 ha.wds) hp31) (Nat.le_refl _)
 have hlB2 : (natW (val B * 2 ^ y)).length ≤ B.length + 1 := qa2 (k := B.length + 1) (qg6 (y0 hb.wds) hp31) (Nat.le_refl _)
 have hb1 : 0 < val B * 2 ^ y := Nat.mul_pos h0 hp0
 intro w hw
 refine qv _ func97 rfl ntmps97 rfl ?_ hw;refine sR ?_;iterate 3 refine oV ?_
 refine nS ?_;refine oV ?_;refine oI call98 rfl (qam _ _ hb (by omega)) ?_;rintro u1 I1 hx1 hs1;refine oV ?_;refine nU ?_;refine oV ?_;refine vj trivial rfl underlying46 rfl (hs1) ?_;refine oV ?_;refine nT ?_;refine cC rfl (fun h1 => ?_) (fun h1 => ?_)
 ·
  have f1 := h1;try simp only [bl] at f1
  exfalso; omega
 have f1 := h1;try simp only [bl] at f1
 refine kS ?_;iterate 2 refine oV ?_
 refine vj trivial rfl underlying46 rfl (hs1) ?_
 (refine vy trivial rfl rfl rfl ?_ ?_; (omega))
 refine y4 trivial rfl underlying46 sizeOf83 rfl (hs1) rfl (by omega) ?_;refine q8 trivial rfl isAgg83 rfl (hs1.cellI (k := (natW (val B)).length - 1) (by omega) (by omega)) ?_;refine oQ call127 rfl (qnf _ hdt) ?_
 (refine vy trivial rfl rfl rfl ?_ ?_; (omega))
 refine oV ?_;refine oN (tC (cS ?_))
 rw [show (32 : Int) - (bitZ (dg (natW (val B)) ((natW (val B)).length - 1)) : Int) = (y : Int) by omega]
 refine cR ?_;iterate 2 refine oV ?_
 refine oI call129 rfl (qnm _ _ y (ha.le hx1.le) (by omega) (by omega)) ?_;rintro u2 I2 hx2 hs2;iterate 2 refine oV ?_
 refine oI call129 rfl (qnm _ _ y (hs1.le hx2.le) (by omega) (by omega)) ?_;rintro u3 I3 hx3 hs3;iterate 2 refine oV ?_
 refine oN (tC (cS ?_))
 rw [qb] at hs3
 have hs2' := hs2.le hx3.le
 refine cR ?_;refine oV ?_;refine vj trivial rfl underlying46 rfl (hs2') ?_;refine qbu trivial rfl underlying46 qa1 rfl rfl (by omega) (by omega) (by (unfold maxLen; omega)) (fun b32 => ?_);refine oV ?_;refine oN (tC (cS (cS ?_)))
 rw [Int.toNat_natCast,qbh]
 refine cR ?_;refine oV ?_;refine vj trivial rfl underlying46 rfl (hs2') ?_
 (refine vy trivial rfl rfl rfl ?_ ?_; (omega))
 refine oV ?_;refine oN (tC (cB ?_));refine qu (ι := Nat × List Nat × Nat × Value × Hp) [0,1,4,7] (.cons rfl (.cons rfl (.cons rfl (.cons rfl .nil)))) (fun x => x.1) (fun x E0 => (5,x.2.2.2.1) :: (8,.int .i64 ((x.1 : Int) - 1)) :: E0) (fun x => St w [] x.2.2.2.2 [.box b32 (.cells (wl x.2.1).toArray 83 (0,0))]) (fun x => x.1 ≤ (natW (val A * 2 ^ y)).length ∧ Wds x.2.1 ∧ x.2.1.length = (natW (val A * 2 ^ y)).length ∧ x.2.2.1 < val B * 2 ^ y ∧ Ws x.2.2.2.2 x.2.2.2.1 (natW x.2.2.1) ∧ val ((natW (val A * 2 ^ y)).drop x.1) = val (x.2.1.drop x.1) * (val B * 2 ^ y) + x.2.2.1 ∧ Ext w.heap.size I3 x.2.2.2.2) (((natW (val A * 2 ^ y)).length,List.replicate (natW (val A * 2 ^ y)).length 0,0,.slice none 0 0,I3)) (sC rfl (sC rfl (sC rfl (sC rfl (sC rfl (sC rfl sN)))))) (fun _ h => h) (⟨Nat.le_refl _,qby _,List.length_replicate,hb1,by simp only [yh]; exact Ws.nil _,by simp only; rw [qgz (Nat.le_refl _),qgz (by rw [List.length_replicate]; exact Nat.le_refl _),Nat.zero_mul],Ext.refl _ _⟩) ?_;rintro ⟨j,O,r,u4,I4⟩ ⟨hj,hO,hl,hr,hu4,hF,hx4⟩
 try dsimp only
 simp only at hj hO hl hr hu4 hF hx4; have hrl : (natW r).length ≤ B.length + 1 := qa2 (k := B.length + 1) (Nat.lt_trans hr (qg6 (y0 hb.wds) hp31)) (Nat.le_refl _)
 refine cS (sR ?_);iterate 2 refine oV ?_
 refine nT ?_;refine cC rfl (fun h2 => ?_) (fun h2 => ?_)
 ·
  have f2 := h2;try simp only [bl] at f2
  obtain ⟨k,rfl⟩ : ∃ k,j = k + 1 := ⟨j - 1,by omega⟩
  have hdA := yz (j7 (val A * 2 ^ y)) k
  rw [show ((k + 1 : Nat) : Int) - 1 = (k : Int) by omega]
  refine cK (tC (cS (cB (cR ?_))));iterate 4 refine oV ?_
  refine y4 trivial rfl underlying46 sizeOf83 rfl (hs2'.le hx4.le) rfl (by omega) ?_;refine q8 trivial rfl isAgg83 rfl ((hs2'.le hx4.le).cellI (k := k) (by omega) (by omega)) ?_;refine oB underlying46 sizeOf83 zeroValue83 fun b47 => ?_;refine TL.pre ?_ (fun w' h => h.boxRow (m := 1) (sz := 1) rfl (by unfold maxLen; omega));refine oV ?_;refine qfg trivial rfl underlying46 (qbj) (by decide) rfl rfl (fun v' => (by repeat constructor)) (hu4.slc) (qg2 _) (by rw [yv]; unfold maxLen; omega) (by rw [yv]; omega) (fun v49 => ?_)
  rw [qbx,yv]
  refine qmy (xss := wcs (dg (natW (val A * 2 ^ y)) k :: natW r)) (by rw [qbx]; exact Take.here) (by rw [yv,List.length_cons]; omega) (qfi _) (by unfold maxLen; omega) (fun I5 hx5 hs5 => ?_)
  have hw5 : Ws I5 v49 (dg (natW (val A * 2 ^ y)) k :: natW r) := ⟨hs5,jx hdA (j7 _)⟩
  refine oI call98 rfl (qam _ _ hw5 (by rw [List.length_cons]; omega)) ?_;rintro u6 I6 hx6 hs6;refine oV ?_
  rw [zr,qb] at hs6
  have hlt6 : dg (natW (val A * 2 ^ y)) k + 4294967296 * r < val B * 2 ^ y * 4294967296 := by
    have := Nat.mul_le_mul_right 4294967296 (Nat.succ_le_of_lt hr)
    rw [Nat.succ_mul,Nat.mul_comm r] at this
    omega
  refine oI call130 rfl (qvy _ _ _ _ hs6 ((((hs3.le hx4.le).le hx5.le)).le hx6.le) (by omega) hb1 hlt6) ?_;rintro _ I7 hx7 ⟨u7,rfl,hs7⟩;iterate 3 refine oV ?_
  refine yt trivial rfl underlying46 sizeOf83 rfl rfl (by omega) ?_;refine qz trivial rfl rfl rfl sizeOf83 rfl (by repeat constructor) (by rw [zu]; omega) ?_;refine oV ?_;refine oN (qe (tC (cR ?_)));refine oV ?_
  (refine vy trivial rfl rfl rfl ?_ ?_; (omega))
  refine oV ?_;refine oN ?_;exact qj (k,O.set k ((dg (natW (val A * 2 ^ y)) k + 4294967296 * r) / (val B * 2 ^ y)),(dg (natW (val A * 2 ^ y)) k + 4294967296 * r) % (val B * 2 ^ y),u7,I7) (sC rfl (sC rfl (sC rfl (sC rfl (sC rfl (sC rfl sN)))))) (fun _ h => h.wl1 k _ (by omega)) (by show k < k + 1; omega) ⟨by show k ≤ _; omega,hO.set ((Nat.div_lt_iff_lt_mul hb1).2 (Nat.lt_of_lt_of_eq hlt6 (Nat.mul_comm _ _))),by simp only [List.length_set]; exact hl,Nat.mod_lt _ hb1,hs7,qmt (by omega) (by omega) hF (by rw [Nat.mul_comm r,Nat.add_comm]; exact (Nat.div_add_mod' _ _).symm),hx4.trans (hx5.trans (hx6.trans hx7 (Nat.le_refl _)) (Nat.le_refl _)) (Nat.le_refl _)⟩
 have f2 := h2;try simp only [bl] at f2
 refine qq (qc (qc (qp rfl (tC (cS ?_)))))
 have hj0 : j = 0 := by omega
 subst hj0
 rw [List.drop_zero,List.drop_zero,qb] at hF
 obtain ⟨e1,e2⟩ := qv0 h0 hF hr
 refine cR ?_;refine oB underlying46 sizeOf83 zeroValue83 fun b57 => ?_;refine oV ?_;refine qaz [2] Take.here (jx (by decide) zc) (by unfold maxLen; simp) (fun I8 hx8 hs8 => ?_);refine oI call112 rfl (qjl _ _ y hs8 (by simp) (by omega) (by show 1 * y ≤ 4096; omega)) ?_;rintro _ I9 hx9 ⟨u9,rfl,hs9⟩;iterate 5 refine oV ?_
 refine oN (tC (cS ?_))
 have hv2 : val [2] = 2 := rfl
 rw [hv2] at hs9
 obtain ⟨hn9,_⟩ := qfr (n := 2 ^ y) (by omega)
 refine cR ?_;iterate 2 refine oV ?_
 refine y4 trivial rfl underlying46 sizeOf83 rfl (hs9) rfl (by omega) ?_;refine q8 trivial rfl isAgg83 rfl (hs9.cellI (k := 0) rfl (by omega)) ?_
 rw [qvz (n := 2 ^ y) (by omega)]
 refine oI call131 rfl (qnn _ _ (2 ^ y) ((hu4.le hx8.le).le hx9.le) (by omega) hp0 (by omega)) ?_;rintro _ I10 hx10 ⟨u10,rfl,hs10⟩;iterate 5 refine oV ?_
 refine oN (tC (cS ?_))
 rw [qb,e2] at hs10
 refine qd5 O Take.here hO (by unfold maxLen; omega) (fun I11 hx11 hs11 => ?_)
 rw [hl] at hs11
 refine cR ?_;refine oV ?_;refine oI call98 rfl (qam _ _ hs11 (by omega)) ?_;rintro u12 I12 hx12 hs12;iterate 4 refine oV ?_
 refine nE ?_;refine ret3 rfl rfl rfl rfl ?_;refine leaf (hx1.trans (hx2.trans (hx3.trans (hx4.trans (hx8.trans (hx9.trans (hx10.trans (hx11.trans hx12 (Nat.le_refl _)) (Nat.le_refl _)) (Nat.le_refl _)) (Nat.le_refl _)) (Nat.le_refl _)) (Nat.le_refl _)) (Nat.le_refl _)) (Nat.le_refl _)) (List.nil_sublist _) ⟨u12,u10,rfl,?_,(hs10.le hx11.le).le hx12.le⟩
 rw [e1] at hs12; exact hs12
abbrev vbox (b : Nat) (v : Value) : Tw.Item := .box b (.cells [v].toArray 46 (0,0))
theorem qv1 (va vb : Value) (A B : List Nat) {I : Hp} (ha : Ws I va A) (hb : Ws I vb B) : Fun prog 128 [va,vb] I [] (fun v I' B' => I = I' ∧ ∃ b2 b3,v = .func (.func 144) #[] #[.pointer (some ⟨b3,0,none⟩),.pointer (some ⟨b2,0,none⟩)] ∧ B' = [vbox b3 vb,vbox b2 va]) := by
 intro w hw
 refine qv _ func128 rfl ntmps128 rfl ?_ hw;refine sR ?_;refine qo (cs := [_]) trivial rfl rfl (ha.cells1).1 (fun b2 => ?_);refine qo (cs := [_]) trivial rfl rfl (hb.cells1).1 (fun b3 => ?_);refine oV ?_;refine nS ?_;iterate 2 refine oV ?_
 refine nE ?_;refine ret1 rfl rfl ?_;exact fun w' hw' => ⟨I,[vbox b3 vb,vbox b2 va],hw',Ext.refl _ _,rfl,b2,b3,rfl,rfl⟩
structure qv2 (P : Program) (r : Loop) (p b5 : Nat) : Prop where
 one : r.params = #[p]
 state : r.state = .ready
 pending : r.pending = none
 go : ∀ (w0 : World) (X : List Nat) (I : Hp) (B : List Tw.Item) (l : Nat) (y z : Value) (w : World) (S : List Nat),Ws I y S → St w0 X I (.box l (.loop r) :: vbox b5 z :: B) w → RoundIn Fence.wide 0 P l r.fn (r.tmps.setIfInBounds p y) r.assign r.body w (fun e w' => e = .returned (.bool true) ∧ St w0 X I (.box l (.loop r) :: vbox b5 y :: B) w')
theorem qv3 (l b5 b2 b3 : Nat) (r : Loop) {p : Nat} (ok : qv2 prog r p b5) (va vb : Value) (A B : List Nat) {I : Hp} (ha : Ws I va A) (hb : Ws I vb B) (hs : A.length ≤ 2000000) (hs2 : B.length ≤ 2000000) :
   Fun prog 144 [.func (.yield l) #[] #[], .pointer (some ⟨b3, 0, none⟩), .pointer (some ⟨b2, 0, none⟩)] I [.box l (.loop r), vbox b5 va, vbox b2 va, vbox b3 vb]
     (fun _ I' B' => ∃ r' B1,B' = .box l (.loop r') :: B1 ∧ r'.state = .ready ∧ r'.pending = none ∧ ∃ u L,B1 = [vbox b5 u] ∧ Ws I' u L ∧ val L = Nat.gcd (val A) (val B) ∧ L.length ≤ 2000000) := by
 intro w hw
 refine j5 _ func144 rfl ntmps144 rfl ?_ hw;refine cB ?_;refine qu (ι := Value × Value × List Nat × List Nat × Hp) [0,1,2] (.cons rfl (.cons rfl (.cons rfl .nil))) (fun x => val x.2.2.2.1) (fun x E0 => E0) (fun x => St w _ x.2.2.2.2 [.box l (.loop r),vbox b5 x.1,vbox b2 x.1,vbox b3 x.2.1]) (fun x => Ws x.2.2.2.2 x.1 x.2.2.1 ∧ Ws x.2.2.2.2 x.2.1 x.2.2.2.1 ∧ x.2.2.1.length ≤ 2000000 ∧ x.2.2.2.1.length ≤ 2000000 ∧ Nat.gcd (val x.2.2.1) (val x.2.2.2.1) = Nat.gcd (val A) (val B) ∧ Ext w.heap.size I x.2.2.2.2) ((va,vb,A,B,I)) (sC rfl (sC rfl (sC rfl sN))) (fun _ h => h) (⟨ha,hb,hs,hs2,rfl,Ext.refl _ _⟩) ?_;rintro ⟨u,z,L,M,I1⟩ ⟨hu,hz,hsL,hsM,hg,hx1⟩
 try dsimp only
 simp only at hu hz hsL hsM hg hx1; unfold vbox
 refine cS (sR ?_);refine oL isAgg46 ?_;refine oQ call95 rfl (qfp _ _ hz (by omega)) ?_;refine oV ?_;refine nT ?_;refine cC rfl (fun h1 => ?_) (fun h1 => ?_)
 ·
  have f1 := h1;try simp only [bl] at f1
  have hM : 0 < val M := Nat.pos_of_ne_zero fun e => by rw [e] at f1; simp [bitZ] at f1
  refine cK (tC (cB (sR ?_)));iterate 2 refine oL isAgg46 ?_
  refine oI call97 rfl (qjm _ _ _ _ hu hz (by omega) (by omega) hM) ?_;rintro _ I2 hx2 ⟨u1,u2,rfl,hq,hr2⟩;iterate 7 refine oV ?_
  refine nS ?_;refine oL isAgg46 ?_;refine oV ?_;refine qz trivial rfl rfl (hz.cells1).1 sizeOf46 (hz.cells1).2 (by repeat constructor) (by exact Nat.le_of_ble_eq_true rfl) ?_;refine qz trivial rfl rfl (hr2.cells1).1 sizeOf46 (hr2.cells1).2 (by repeat constructor) (by exact Nat.le_of_ble_eq_true rfl) ?_;refine oN (tC (cS ?_));refine c_ti (m := 4) rfl (qfm (fun _ => trivial) rfl rfl rfl (qak rfl) (qfm (fun _ => trivial) rfl rfl rfl (qu2 (off := 0) (cs := [z]) (Tb := 46) (fz := (0,0)) isAgg46 rfl (List.Mem.tail _ (List.Mem.tail _ (List.Mem.head _))) rfl) (quz (r := r) (S' := St w _ I2 [.box l (.loop r),vbox b5 z,vbox b2 z,vbox b3 u2]) rfl rfl rfl rfl ok.one (fun w' hw' => hw'.own (.box l (.loop r)) List.mem_cons_self) (fun w' hw' => ok.go w _ I2 _ l z u w' M (hz.le hx2.le) hw') (qfm (fun _ => trivial) rfl rfl rfl (qak rfl) (qjd ?_)))));refine tC ?_;refine qie rfl (by rfl) ?_;refine cK (qe ?_);exact qj (z,u2,M,natW (val L % val M),I2) (sC rfl (sC rfl (sC rfl sN))) (fun _ h => h) (by show val (natW (val L % val M)) < val M; rw [qb]; exact Nat.mod_lt _ hM) ⟨hz.le hx2.le,hr2,hsM,qa2 (Nat.lt_of_lt_of_le (Nat.mod_lt _ hM) (Nat.le_of_lt (y0 hz.wds))) hsM,by simp only; rw [qb,quh]; exact hg,hx1.trans hx2 (Nat.le_refl _)⟩
 have f1 := h1;try simp only [bl] at f1
 have hM : val M = 0 := qc6.1 (by omega)
 refine qq (qc (qc (qp rfl ?_)));refine ret0 rfl ?_;refine leaf hx1 (B' := [.box l (.loop r),vbox b5 u]) ((List.nil_sublist _).cons_cons _ |>.cons_cons _) ⟨r,[vbox b5 u],rfl,ok.state,ok.pending,u,L,rfl,hu,?_,hsL⟩; rw [← hg,hM,Nat.gcd_zero_right]
theorem qv4 {n : Nat} {D : List Deferred} {E : Env} {a : Act} (h : Fits n D E a) {d : Nat} (hd : Nat.blt d n = true) (v : Value) (D' : List Deferred) : Fits n D' ((d, v) :: E) { tmps := a.tmps.setIfInBounds d v, defers := D' } :=
 let h1 := h.put hd v
 ⟨h1.size,rfl,h1.get⟩
theorem qno (va vb : Value) (A B : List Nat) {I : Hp} (ha : Ws I va A) (hb : Ws I vb B) (hs : A.length ≤ 2000000) (hs2 : B.length ≤ 2000000) : Fun prog 96 [va,vb] I [] (fun v I' _ => Ws I' v (natW (Nat.gcd (val A) (val B)))) := by
 intro w hw
 refine qu6 _ func96 rfl ntmps96 rfl ?_ hw;refine sR ?_;refine oV ?_;refine nS ?_;refine oV ?_;refine qh trivial rfl zeroValue46 rfl (fun b5 => ?_);refine qz trivial rfl rfl (ha.cells1).1 sizeOf46 (ha.cells1).2 (by repeat constructor) (by exact Nat.le_of_ble_eq_true rfl) ?_;refine nU ?_;iterate 2 refine oV ?_
 refine oC trivial rfl call128 rfl (qv1 va vb A B ha hb) (by repeat constructor) ?_;rintro _ I1 B1 hx1 ⟨rfl,b2,b3,rfl,rfl⟩;refine oN (tC (cB ?_));refine qu4 (R := fun I' B1 => ∃ u L,B1 = [vbox b5 u] ∧ Ws I' u L ∧ val L = Nat.gcd (val A) (val B) ∧ L.length ≤ 2000000) (Bc := [vbox b5 va,vbox b2 va,vbox b3 vb]) rfl call144 (by repeat constructor) (fun fn l Dd a hfit => qv3 l b5 b2 b3 _ ⟨rfl,rfl,rfl,fun w0 X I B l y z w' S hy hw' => qu1 (B' := vbox b5 y :: B) rfl (qv4 hfit rfl y []) (qm7 (m := 1) rfl (qfm (fun _ => trivial) rfl rfl rfl (qak rfl) (qjd ⟨fun a w ha hw => ⟨rfl,ha,hw⟩⟩))) (qu0 (qm7 (m := 2) rfl (qfm (fun _ => trivial) rfl rfl rfl (qak rfl) (quy (fun _ => trivial) rfl rfl (qu3 rfl rfl hy.cells1.1 sizeOf46 hy.cells1.2 (.there .here)) (qjd (qe ⟨fun a w ha hw => ⟨rfl,hw⟩⟩)))))) hw'⟩ va vb A B ha hb hs hs2) ?_;rintro Dd I2 _ hx2 ⟨u,L,rfl,hu,hL,hLs⟩;refine qe (tC (sR ?_));refine qax trivial rfl isAgg46 rfl (by repeat constructor) (rfl) ?_;refine oI call98 rfl (qam _ _ hu (by omega)) ?_;rintro u3 I3 hx3 hs3;refine oV ?_;refine nE ?_;refine qu7 rfl rfl (Take.there Take.here) ?_;refine leaf (hx2.trans hx3 (Nat.le_refl _)) (List.nil_sublist _) ?_; rw [hL] at hs3; exact hs3
theorem y8 {a b : Nat} (h : a ≤ b) : (natW a).length ≤ (natW b).length := by
 have := y0 (j7 b)
 rw [qb] at this
 exact zt (Nat.lt_of_le_of_lt h this)
theorem qad {l : List Nat} (h : Wds l) : (natW (val l)).length ≤ l.length := by rw [← qd3 h]; exact qal _ _
theorem qv5 (va vb : Value) (A B : List Nat) {I : Hp} (ha : Ws I va A) (hb : Ws I vb B) (hs : A.length ≤ 2000000) (hs2 : B.length ≤ 2000000) : Fun prog 69 [va,vb] I [] (fun v I' _ => ∃ u1 u2,v = .tuple #[u1,u2,.bool (decide (val B ≠ 0))] ∧ (val B ≠ 0 → Ws I' u1 (natW (val A / Nat.gcd (val A) (val B))) ∧ Ws I' u2 (natW (val B / Nat.gcd (val A) (val B))))) := by
 intro w hw
 refine qv _ func69 rfl ntmps69 rfl ?_ hw;refine sR ?_;iterate 3 refine oV ?_
 refine nU ?_;refine oV ?_;refine oQ call95 rfl (qfp _ _ hb (by omega)) ?_;refine oV ?_;refine nT ?_;refine cC rfl (fun h1 => ?_) (fun h1 => ?_)
 ·
  have f1 := h1;try simp only [bl] at f1
  refine sR ?_;iterate 3 refine oV ?_
  refine nF ?_;refine ret3 rfl rfl rfl rfl ?_
  have h0 : val B = 0 := qc6.1 (by omega)
  refine qg ⟨.slice none 0 0,.slice none 0 0,?_,fun h => absurd h0 h⟩; rw [decide_eq_false (not_not_intro h0)]
 have f1 := h1;try simp only [bl] at f1
 have h0 : 0 < val B := Nat.pos_of_ne_zero fun e => f1 (by rw [e]; rfl)
 have hg : 0 < Nat.gcd (val A) (val B) := Nat.gcd_pos_of_pos_right _ h0
 have hgl : (natW (Nat.gcd (val A) (val B))).length ≤ 2000000 := Nat.le_trans (y8 (Nat.gcd_le_right _ h0)) (Nat.le_trans (qad hb.wds) hs2)
 refine kS ?_;iterate 2 refine oV ?_
 refine oI call96 rfl (qno _ _ _ _ ha hb hs hs2) ?_;rintro u1 I1 hx1 hs1;refine oV ?_;refine nS ?_;iterate 2 refine oV ?_
 refine oI call97 rfl (qjm _ _ _ _ (ha.le hx1.le) hs1 (by omega) (by omega) (by rw [qb]; exact hg)) ?_;rintro _ I2 hx2 ⟨u2,u3,rfl,hq2,hr2⟩;iterate 5 refine oV ?_
 refine nS ?_;iterate 2 refine oV ?_
 refine oI call97 rfl (qjm _ _ _ _ (hb.le (hx1.le.trans hx2.le)) (hs1.le hx2.le) (by omega) (by omega) (by rw [qb]; exact hg)) ?_;rintro _ I3 hx3 ⟨u4,u5,rfl,hq4,hr4⟩;iterate 5 refine oV ?_
 refine nS ?_;iterate 5 refine oV ?_
 refine nE ?_;refine ret3 rfl rfl rfl rfl ?_
 rw [qb] at hq2 hq4
 refine leaf (hx1.trans (hx2.trans hx3 (Nat.le_refl _)) (Nat.le_refl _)) (List.nil_sublist _) ⟨u2,u4,?_,fun _ => ⟨hq2.le hx3.le,hq4⟩⟩; rw [decide_eq_true (by omega)]; rfl
theorem qv6 (va vb : Value) (A B : List Nat) {I : Hp} (ha : Ws I va A) (hb : Ws I vb B) (hs : A.length ≤ 2000000) (hs2 : B.length ≤ 2000000) : Fun prog 141 [va,vb] I [] (fun v I' _ => v = .bool (decide (Nat.gcd (val A) (val B) = 1))) := by
 intro w hw
 refine qv _ func141 rfl ntmps141 rfl ?_ hw;refine sR ?_;refine oV ?_;refine nS ?_;iterate 2 refine oV ?_
 refine oI call96 rfl (qno _ _ _ _ ha hb hs hs2) ?_;rintro u1 I1 hx1 hs1
 have hgl : (natW (Nat.gcd (val A) (val B))).length ≤ 2000000 := by
   rcases Nat.eq_zero_or_pos (val B) with h0 | h0
   · rw [h0,Nat.gcd_zero_right]; exact Nat.le_trans (qad ha.wds) hs
   · exact Nat.le_trans (y8 (Nat.gcd_le_right _ h0)) (Nat.le_trans (qad hb.wds) hs2)
 refine oI call70 rfl (qji 1 (by decide)) ?_;rintro u2 I2 hx2 hs2';refine oQ call155 rfl (qnj _ _ _ _ (hs1.le hx2.le) hs2' (by omega) (qa2 (k := 1) (by decide) (by decide))) ?_;iterate 2 refine oV ?_
 refine nE ?_;refine ret1 rfl rfl ?_;refine leaf (hx1.trans hx2 (Nat.le_refl _)) (List.nil_sublist _) (congrArg Value.bool ?_)
 rw [qb,qb,Bool.eq_iff_iff,beq_iff_eq,decide_eq_true_eq]
 constructor
 · intro h; have := qfo h; omega
 · intro h; rw [h]; exact qck _
end Go.Proofs.YtoincnplajnpnaaGreat
namespace Go.Tw
def lowQ (neg : Bool) (n d : Nat) : Rat := mkRat (if neg then -(n : Int) else n) d
theorem qfs {neg : Bool} {n d : Nat} (h : d = 0 ∨ n = 0) : lowQ neg n d = 0 := by
 unfold lowQ
 rcases h with rfl | rfl
 · exact Rat.mkRat_zero _
 · cases neg <;> exact Rat.zero_mkRat _
theorem qg7 {neg : Bool} {n d : Nat} (hn : n ≠ 0) (hd : d ≠ 0) : (lowQ neg n d).num.natAbs = n / Nat.gcd n d ∧ (lowQ neg n d).den = d / Nat.gcd n d ∧ decide ((lowQ neg n d).num < 0) = neg := by
 have hg : 0 < Nat.gcd n d := Nat.gcd_pos_of_pos_left _ (by omega)
 have hna : (if neg then -(n : Int) else (n : Int)).natAbs = n := by cases neg <;> simp
 have hdv : (Nat.gcd n d : Int) ∣ (if neg then -(n : Int) else (n : Int)) := by
   cases neg
   · exact Int.natCast_dvd_natCast.2 (Nat.gcd_dvd_left n d)
   · exact Int.dvd_neg.2 (Int.natCast_dvd_natCast.2 (Nat.gcd_dvd_left n d))
 have hpos : 0 < n / Nat.gcd n d := Nat.div_pos (Nat.le_of_dvd (by omega) (Nat.gcd_dvd_left n d)) hg
 unfold lowQ
 rw [Rat.num_mkRat,Rat.den_mkRat,if_neg hd,if_neg hd,hna,Nat.gcd_comm d n]
 have e : (if neg then -(n : Int) else (n : Int)) / (Nat.gcd n d : Int) = if neg then -((n / Nat.gcd n d : Nat) : Int) else ((n / Nat.gcd n d : Nat) : Int) := by
   cases neg
   · simp only [Bool.false_eq_true,if_false]; exact (Int.natCast_ediv _ _).symm
   · simp only [if_true]
     rw [Int.neg_ediv_of_dvd (Int.natCast_dvd_natCast.2 (Nat.gcd_dvd_left n d)),Int.natCast_ediv]
 rw [e]
 refine ⟨?_,rfl,?_⟩
 all_goals generalize n / Nat.gcd n d = s at *
 · cases neg <;> simp
 · cases neg
   · simp only [Bool.false_eq_true,if_false]; exact decide_eq_false (by omega)
   · simp only [if_true]; exact decide_eq_true (by omega)
theorem qjn (z : Int) : (if decide (z < 0) then -(z.natAbs : Int) else (z.natAbs : Int)) = z := by
 by_cases h : z < 0
 · rw [decide_eq_true h,if_pos rfl]; omega
 · rw [decide_eq_false h,if_neg (by decide)]; omega
theorem qbz (z : Int) (d : Nat) : lowQ (decide (z < 0)) z.natAbs d = mkRat z d := by unfold lowQ; rw [qjn]
theorem qa3 (q : Rat) : lowQ (decide (q.num < 0)) q.num.natAbs q.den = q := by rw [qbz]; exact Rat.mkRat_self q
theorem qnp (q : Rat) : lowQ (!decide (q.num < 0)) q.num.natAbs q.den = -q := by
 have h := qa3 q
 unfold lowQ at h ⊢
 conv => rhs; rw [← h]
 rw [Rat.neg_mkRat]
 by_cases h1 : q.num < 0
 · rw [decide_eq_true h1]; simp
 · rw [decide_eq_false h1]; simp
theorem sign_mul (x y : Int) : (if (decide (x < 0) != decide (y < 0)) then -((x.natAbs * y.natAbs : Nat) : Int) else ((x.natAbs * y.natAbs : Nat) : Int)) = x * y := by
 have key : ∀ (s t : Bool) (a b : Nat),(if s != t then -((a * b : Nat) : Int) else ((a * b : Nat) : Int)) = (if s then -(a : Int) else a) * (if t then -(b : Int) else b) := by
   intro s t a b
   cases s <;> cases t <;> simp [Int.mul_neg,Int.neg_mul]
 rw [key,qjn,qjn]
theorem qft (p q : Rat) : lowQ (decide (p.num < 0) != decide (q.num < 0)) (p.num.natAbs * q.num.natAbs) (p.den * q.den) = p * q := by
 unfold lowQ; rw [sign_mul]; exact (Rat.mul_def' p q).symm
structure Few (k : Nat) (q : Rat) : Prop where
 num : q.num.natAbs < 4294967296 ^ k
 den : q.den < 4294967296 ^ k
theorem Few.le {k m : Nat} {q : Rat} (h : Few k q) (hk : k ≤ m) : Few m q :=
 ⟨Nat.lt_of_lt_of_le h.num (Nat.pow_le_pow_right (by decide) hk),Nat.lt_of_lt_of_le h.den (Nat.pow_le_pow_right (by decide) hk)⟩
theorem Few.neg {k : Nat} {q : Rat} (h : Few k q) : Few k (-q) := ⟨by rw [Rat.neg_num,Int.natAbs_neg]; exact h.num,by rw [Rat.neg_den]; exact h.den⟩
theorem yj {n k m : Nat} (h : n < 4294967296 ^ k) (hm : k ≤ m) : (natW n).length ≤ m := Nat.le_trans (zt h) hm
theorem qnq (n d : Int) : lowQ (decide (n < 0) != decide (d < 0)) n.natAbs d.natAbs = Rat.divInt n d := by
 rcases (by omega : d < 0 ∨ 0 ≤ d) with h | h
 · have e : d = -((d.natAbs : Nat) : Int) := by omega
   conv => rhs; rw [e]
   rw [Rat.divInt_neg',Rat.divInt_ofNat,decide_eq_true h]
   unfold lowQ
   refine congrArg (mkRat · _) ?_
   by_cases hn : n < 0
   · rw [decide_eq_true hn]; simp; omega
   · rw [decide_eq_false hn]; simp; omega
 · have e : d = ((d.natAbs : Nat) : Int) := by omega
   conv => rhs; rw [e]
   have h1 : decide (d < 0) = false := decide_eq_false (by omega)
   rw [Rat.divInt_ofNat,h1,← qbz]
   simp
theorem qv7 (p q : Rat) : Rat.divInt (p.num * (q.den : Int)) ((p.den : Int) * q.num) = p / q := by
 rw [Rat.div_def,Rat.inv_def]
 conv => rhs; lhs; rw [← Rat.num_divInt_den p]
 rw [Rat.divInt_mul_divInt]
theorem sign_pow (x : Int) (n : Nat) : decide (x ^ n < 0) = (decide (x < 0) && decide (n % 2 ≠ 0)) := by
 have key : ∀ k,x ^ (2 * k) = (x ^ k) ^ 2 := fun k => by rw [Nat.mul_comm,Int.pow_mul]
 have sq : ∀ y : Int, 0 ≤ y ^ 2 := fun y => by
   rw [Int.pow_succ,Int.pow_succ,Int.pow_zero,Int.one_mul]
   rcases (by omega : y < 0 ∨ 0 ≤ y) with h | h
   · exact Int.le_of_lt (Int.mul_pos_of_neg_of_neg h h)
   · exact Int.mul_nonneg h h
 have hz : ∀ k, x ^ k = 0 → x = 0 := fun k h => by
   by_cases hx : x = 0
   · exact hx
   · exact absurd h (Int.pow_ne_zero hx)
 obtain ⟨k,hk⟩ : ∃ k,n = 2 * k ∨ n = 2 * k + 1 := ⟨n / 2,by omega⟩
 rcases hk with rfl | rfl
 · rw [show (2 * k) % 2 = 0 by omega, key]
   simp [sq]
 · rw [show (2 * k + 1) % 2 = 1 by omega, Int.pow_succ, key]
   have h0 := sq (x ^ k)
   by_cases hx : x < 0
   · have hne : (x ^ k) ^ 2 ≠ 0 := fun e => by
       rw [Int.pow_succ,Int.pow_succ,Int.pow_zero,Int.one_mul] at e
       rcases Int.mul_eq_zero.1 e with e | e <;> exact absurd (hz k e) (by omega)
     have : (x ^ k) ^ 2 * x < 0 := Int.mul_neg_of_pos_of_neg (by omega) hx
     simp [hx,this]
   · have : 0 ≤ (x ^ k) ^ 2 * x := Int.mul_nonneg h0 (by omega)
     simp [hx]; omega
theorem qnr (q : Rat) (n : Nat) : lowQ (decide (q.num < 0) && decide (n % 2 ≠ 0)) (q.num.natAbs ^ n) (q.den ^ n) = q ^ n := by
 rw [← sign_pow,← Int.natAbs_pow,qbz]
 have h := Rat.mkRat_self (q ^ n)
 rw [Rat.num_pow,Rat.den_pow] at h
 exact h
theorem qns (q : Rat) (n : Nat) : lowQ (decide (q.num < 0) && decide (n % 2 ≠ 0)) (q.den ^ n) (q.num.natAbs ^ n) = (q ^ n)⁻¹ := by
 rw [Rat.inv_def,Rat.num_pow,Rat.den_pow,← qnq,← sign_pow,Int.natAbs_pow,Int.natAbs_natCast]
 have h : decide (((q.den ^ n : Nat) : Int) < 0) = false := decide_eq_false (by omega)
 rw [h]; simp
end Go.Tw
namespace Go.Proofs.YtoincnplajnpnaaGreat
open Go Go.Tw
def IntV (I : Hp) (v : Value) (z : Int) : Prop := ∃ vm,v = .agg #[.bool (decide (z < 0)),vm] ∧ Ws I vm (natW z.natAbs)
def RatV (I : Hp) (v : Value) (q : Rat) : Prop := ∃ vn vd,v = .agg #[.bool (decide (q.num < 0)),vn,vd] ∧ Ws I vn (natW q.num.natAbs) ∧ Ws I vd (natW q.den)
theorem IntV.le {I I' : Hp} {v : Value} {z : Int} (h : IntV I v z) (hl : I.Le I') : IntV I' v z := let ⟨vm,h1,h2⟩ := h; ⟨vm,h1,h2.le hl⟩
theorem RatV.le {I I' : Hp} {v : Value} {q : Rat} (h : RatV I v q) (hl : I.Le I') : RatV I' v q := let ⟨vn,vd,h1,h2,h3⟩ := h; ⟨vn,vd,h1,h2.le hl,h3.le hl⟩
theorem qnt (neg : Bool) (n : Nat) : (neg && decide (0 < n)) = decide ((if neg then -(n : Int) else n) < 0) := by
 cases neg <;> simp
theorem qnu (neg : Bool) (n : Nat) : (if neg then -(n : Int) else (n : Int)).natAbs = n := by cases neg <;> simp
theorem qg8 (neg : Bool) (va : Value) (A : List Nat) {I : Hp} (ha : Ws I va A) (hs : A.length ≤ 1000000) : Fun prog 135 [.bool neg,va] I [] (fun v I' _ => IntV I' v (if neg then -(val A : Int) else val A)) := by
 intro w hw
 refine qv _ func135 rfl ntmps135 rfl ?_ hw;refine sR ?_;refine qh trivial rfl zeroValue81 rfl (fun b4 => ?_);refine nS ?_;refine oV ?_;refine oI call98 rfl (qam _ _ ha (by omega)) ?_;rintro u1 I1 hx1 hs1;refine oV ?_;refine nS ?_;refine oV ?_;refine' oY (fun hb8 => ?_) ?_;rotate_left
 ·
  have fb8 := hb8
  try simp only [bl] at fb8
  refine gV hb8 ?_;refine vj (wS rfl rfl hb8) rfl underlying46 rfl (hs1) ?_;refine gV hb8 ?_;refine oN ?_;exact qa rfl
 refine oV ?_;refine vg trivial rfl (zk) rfl (.cons rfl rfl rfl (by repeat constructor) (.cons rfl (by exact (Ws.cells1 (by assumption)).1) (by rfl) (by repeat constructor) .nil)) ?_;refine oS sizeOf81 ?_;refine nE ?_;refine retR rfl (.agg isAgg81 sizeOf81 rfl (by repeat constructor) rfl .nil) ?_;refine leaf hx1 (List.nil_sublist _) ⟨u1,?_,by rw [qnu]; exact hs1⟩
 rw [← qnt]
 have e : decide (((natW (val A)).length : Int) > 0) = decide (0 < val A) := by
   rw [decide_eq_decide]
   constructor
   · intro h; exact Nat.pos_of_ne_zero fun e => by rw [e,yh] at h; simp at h
   · intro h; have := (qfr (n := val A) (by omega)).1; omega
 rw [e]; rfl
theorem qae (va vb : Value) (x y : Int) {I : Hp} (ha : Ws I va (natW x.natAbs)) (hb : Ws I vb (natW y.natAbs)) (hs : (natW x.natAbs).length ≤ 200000) (hs2 : (natW y.natAbs).length ≤ 200000) : Fun prog 107 [.agg #[.bool (decide (x < 0)),va],.agg #[.bool (decide (y < 0)),vb]] I [] (fun v I' _ => IntV I' v (x * y)) := by
 intro w hw
 refine qv _ func107 rfl ntmps107 rfl ?_ hw;refine sR ?_;refine qo trivial rfl rfl rfl (fun b2 => ?_);refine qo trivial rfl rfl rfl (fun b3 => ?_);refine qh trivial rfl zeroValue81 rfl (fun b4 => ?_);refine oN (tC (cS ?_));refine yb (m := 12) [.box b2 _,.box b3 _] (by repeat constructor) (by kernel_rfl) rfl ?_;refine qT (i := 0) (qB 12 1) (Hp.Le.refl _) rfl rfl (oF 0 underlying81 sizeOf4 qF) ?_;refine qT (i := 1) (qB 12 3) (Hp.Le.refl _) rfl rfl (oL isAgg4 qF) ?_;refine qT (i := 2) (qB 12 7) (Hp.Le.refl _) rfl rfl (oF 0 underlying81 sizeOf4 qF) ?_;refine qT (i := 3) (qB 12 15) (Hp.Le.refl _) rfl rfl (oL isAgg4 qF) ?_;refine qT (i := 4) (qB 12 31) (Hp.Le.refl _) rfl rfl (qfn trivial rfl rfl rfl underlying4 qF) ?_;refine qT (i := 5) (qB 12 63) (Hp.Le.refl _) rfl rfl (oF 1 underlying81 sizeOf46 qF) ?_;refine qT (i := 6) (qB 12 127) (Hp.Le.refl _) rfl rfl (oL isAgg46 qF) ?_;refine qT (i := 7) (qB 12 255) (Hp.Le.refl _) rfl rfl (oF 1 underlying81 sizeOf46 qF) ?_;refine qT (i := 8) (qB 12 511) (Hp.Le.refl _) rfl rfl (oL isAgg46 qF) ?_;refine qO (i := 9) (qB 12 1023) rfl ?_;refine oI call110 rfl (qfq _ _ _ _ ha hb (by omega) (by omega)) ?_;rintro u1 I1 hx1 hs1;refine qM (hx1.le) ?_;refine qO (i := 10) (qB 12 2047) rfl ?_
 rw [qb,qb] at hs1
 have hl : (natW (x.natAbs * y.natAbs)).length ≤ 400000 := qa2 (k := (natW x.natAbs).length + (natW y.natAbs).length) (by
   have h1 := y0 (j7 x.natAbs)
   have h2 := y0 (j7 y.natAbs)
   rw [qb] at h1 h2
   rw [Nat.pow_add]
   exact Nat.mul_lt_mul'' h1 h2) (by omega)
 refine oI call135 rfl (qg8 (decide (x < 0) != decide (y < 0)) _ _ hs1 (by omega)) ?_;rintro _ I2 hx2 ⟨u2,rfl,hs2'⟩;refine qM ((hx1.le).trans hx2.le) ?_;refine qO (i := 11) (qB 12 4095) rfl ?_;refine oS sizeOf81 ?_;refine qM ((hx1.le).trans hx2.le) ?_;refine qn (by kernel_rfl) ?_;refine tC (cT ?_);refine retR rfl (.agg isAgg81 sizeOf81 rfl (by repeat constructor) rfl .nil) ?_;refine leaf (hx1.trans hx2 (Nat.le_refl _)) (List.nil_sublist _) ⟨u2,?_,?_⟩
 · rw [qb,sign_mul]; rfl
 · rw [qb,sign_mul] at hs2'; exact hs2'
theorem qd9 (a b k : Nat) (ha : (natW a).length ≤ k) (hb : (natW b).length ≤ k) : (natW (a + b)).length ≤ k + 1 := by
 have h1 := y0 (j7 a)
 have h2 := y0 (j7 b)
 rw [qb] at h1 h2
 have h3 : a < 4294967296 ^ k := Nat.lt_of_lt_of_le h1 (Nat.pow_le_pow_right (by decide) ha)
 have h4 : b < 4294967296 ^ k := Nat.lt_of_lt_of_le h2 (Nat.pow_le_pow_right (by decide) hb)
 refine zt ?_
 rw [pow_succ]
 generalize 4294967296 ^ k = P at *
 omega
theorem yq (a b : Nat) : (natW (a * b)).length ≤ (natW a).length + (natW b).length := zt (by
 have h1 := y0 (j7 a)
 have h2 := y0 (j7 b)
 rw [qb] at h1 h2
 rw [Nat.pow_add]
 exact Nat.mul_lt_mul'' h1 h2)
theorem qv8 (va vb : Value) (x y : Int) {I : Hp} (ha : Ws I va (natW x.natAbs)) (hb : Ws I vb (natW y.natAbs)) (hs : (natW x.natAbs).length ≤ 400000) (hs2 : (natW y.natAbs).length ≤ 400000) (hsg : decide (x < 0) = decide (y < 0)) : Fun prog 134 [.agg #[.bool (decide (x < 0)),va],.agg #[.bool (decide (y < 0)),vb]] I [] (fun v I' _ => IntV I' v (x + y)) := by
 have e : (if decide (x < 0) then -((x.natAbs + y.natAbs : Nat) : Int) else ((x.natAbs + y.natAbs : Nat) : Int)) = x + y := by
   by_cases h1 : x < 0
   · have h2 : y < 0 := by rw [decide_eq_true h1] at hsg; exact of_decide_eq_true hsg.symm
     rw [decide_eq_true h1,if_pos rfl]; omega
   · have h2 : ¬ y < 0 := by rw [decide_eq_false h1] at hsg; exact of_decide_eq_false hsg.symm
     rw [decide_eq_false h1,if_neg (by decide)]; omega
 intro w hw
 refine qv _ func134 rfl ntmps134 rfl ?_ hw;refine sR ?_;refine qo trivial rfl rfl rfl (fun b2 => ?_);refine qo trivial rfl rfl rfl (fun b3 => ?_);refine qh trivial rfl zeroValue81 rfl (fun b4 => ?_);refine oN (tC (cS ?_));refine yb (m := 9) [.box b2 _,.box b3 _] (by repeat constructor) (by kernel_rfl) rfl ?_;refine qT (i := 0) (qB 9 1) (Hp.Le.refl _) rfl rfl (oF 0 underlying81 sizeOf4 qF) ?_;refine qT (i := 1) (qB 9 3) (Hp.Le.refl _) rfl rfl (oL isAgg4 qF) ?_;refine qT (i := 2) (qB 9 7) (Hp.Le.refl _) rfl rfl (oF 1 underlying81 sizeOf46 qF) ?_;refine qT (i := 3) (qB 9 15) (Hp.Le.refl _) rfl rfl (oL isAgg46 qF) ?_;refine qT (i := 4) (qB 9 31) (Hp.Le.refl _) rfl rfl (oF 1 underlying81 sizeOf46 qF) ?_;refine qT (i := 5) (qB 9 63) (Hp.Le.refl _) rfl rfl (oL isAgg46 qF) ?_;refine qO (i := 6) (qB 9 127) rfl ?_;refine oI call149 rfl (qvs _ _ _ _ ha hb (by omega) (by omega)) ?_;rintro u1 I1 hx1 hs1;refine qM (hx1.le) ?_;refine qO (i := 7) (qB 9 255) rfl ?_
 rw [qb,qb] at hs1
 have hl := qd9 x.natAbs y.natAbs 400000 hs hs2
 refine oI call135 rfl (qg8 (decide (x < 0)) _ _ hs1 (by omega)) ?_;rintro _ I2 hx2 ⟨u2,rfl,hs2'⟩;refine qM ((hx1.le).trans hx2.le) ?_;refine qO (i := 8) (qB 9 511) rfl ?_;refine oS sizeOf81 ?_;refine qM ((hx1.le).trans hx2.le) ?_;refine qn (by kernel_rfl) ?_;refine tC (cT ?_);refine retR rfl (.agg isAgg81 sizeOf81 rfl (by repeat constructor) rfl .nil) ?_;refine leaf (hx1.trans hx2 (Nat.le_refl _)) (List.nil_sublist _) ⟨u2,?_,?_⟩
 · rw [qb,e]; rfl
 · rw [qb,e] at hs2'; exact hs2'
theorem qv9 (va vb : Value) (x y : Int) {I : Hp} (ha : Ws I va (natW x.natAbs)) (hb : Ws I vb (natW y.natAbs)) (hs : (natW x.natAbs).length ≤ 400000) (hs2 : (natW y.natAbs).length ≤ 400000) (hsg : decide (x < 0) ≠ decide (y < 0)) : Fun prog 133 [.agg #[.bool (decide (x < 0)),va],.agg #[.bool (decide (y < 0)),vb]] I [] (fun v I' _ => IntV I' v (x + y)) := by
 have e1 : y.natAbs ≤ x.natAbs → (if decide (x < 0) then -((x.natAbs - y.natAbs : Nat) : Int) else ((x.natAbs - y.natAbs : Nat) : Int)) = x + y := fun h => by
   by_cases h1 : x < 0 <;> by_cases h2 : y < 0 <;> simp [h1,h2] at hsg ⊢ <;> omega
 have e2 : x.natAbs ≤ y.natAbs → (if decide (y < 0) then -((y.natAbs - x.natAbs : Nat) : Int) else ((y.natAbs - x.natAbs : Nat) : Int)) = x + y := fun h => by
   by_cases h1 : x < 0 <;> by_cases h2 : y < 0 <;> simp [h1,h2] at hsg ⊢ <;> omega
 intro w hw
 refine qv _ func133 rfl ntmps133 rfl ?_ hw;refine sR ?_;refine qo trivial rfl rfl rfl (fun b2 => ?_);refine qo trivial rfl rfl rfl (fun b3 => ?_);refine qh trivial rfl zeroValue81 rfl (fun b4 => ?_);refine nU ?_;refine oF 1 underlying81 sizeOf46 ?_;refine oL isAgg46 ?_;refine oF 1 underlying81 sizeOf46 ?_;refine oL isAgg46 ?_;refine oI call147 rfl (qjk _ _ _ _ ha hb (by omega) (by omega)) ?_;rintro _ I1 hx1 ⟨u1,rfl,hs1⟩;iterate 5 refine oV ?_
 refine nS ?_;refine oV ?_;refine nT ?_;refine cC rfl (fun h1 => ?_) (fun h1 => ?_)
 ·
  have f1 := h1;try simp only [bl] at f1
  rw [qb,qb] at hs1 f1
  have hs1' := hs1 f1
  have hl : (natW (x.natAbs - y.natAbs)).length ≤ 400000 := Nat.le_trans (y8 (Nat.sub_le _ _)) hs
  refine sR ?_;refine oF 0 underlying81 sizeOf4 ?_;refine oL isAgg4 ?_;refine oV ?_;refine oI call135 rfl (qg8 (decide (x < 0)) _ _ hs1' (by omega)) ?_;rintro _ I2 hx2 ⟨u2,rfl,hs2'⟩;refine oS sizeOf81 ?_;refine nF ?_;refine retR rfl (.agg isAgg81 sizeOf81 rfl (by repeat constructor) rfl .nil) ?_;refine leaf (hx1.trans hx2 (Nat.le_refl _)) (List.nil_sublist _) ⟨u2,?_,?_⟩
  · rw [qb,e1 f1]; rfl
  · rw [qb,e1 f1] at hs2'; exact hs2'
 have f1 := h1;try simp only [bl] at f1
 rw [qb,qb] at f1
 refine kS ?_;refine oF 1 underlying81 sizeOf46 ?_;refine oL isAgg46 ?_;refine oF 1 underlying81 sizeOf46 ?_;refine oL isAgg46 ?_;refine oI call147 rfl (qjk _ _ _ _ (hb.le hx1.le) (ha.le hx1.le) (by omega) (by omega)) ?_;rintro _ I3 hx3 ⟨u3,rfl,hs3⟩;iterate 5 refine oV ?_
 refine oN (tC (cS ?_))
 rw [qb,qb] at hs3
 have hs3' := hs3 (by omega)
 have hl : (natW (y.natAbs - x.natAbs)).length ≤ 400000 := Nat.le_trans (y8 (Nat.sub_le _ _)) hs2
 refine cR ?_;refine oF 0 underlying81 sizeOf4 ?_;refine oL isAgg4 ?_;refine oV ?_;refine oI call135 rfl (qg8 (decide (y < 0)) _ _ hs3' (by omega)) ?_;rintro _ I4 hx4 ⟨u4,rfl,hs4⟩;refine oS sizeOf81 ?_;refine nE ?_;refine retR rfl (.agg isAgg81 sizeOf81 rfl (by repeat constructor) rfl .nil) ?_;refine leaf (hx1.trans (hx3.trans hx4 (Nat.le_refl _)) (Nat.le_refl _)) (List.nil_sublist _) ⟨u4,?_,?_⟩
 · rw [qb,e2 (by omega)]; rfl
 · rw [qb,e2 (by omega)] at hs4; exact hs4
def sumF (b : Bool) : FuncId := if b then 134 else 133
theorem qwa (b : Bool) (args : Array Value) (w : World) : (callFunc (sumF b) args).run prog w = .ok (.enter (sumF b) args) w := by
 cases b
 · exact call133 args w
 · exact call134 args w
theorem qwb (va vb : Value) (x y : Int) {I : Hp} (ha : Ws I va (natW x.natAbs)) (hb : Ws I vb (natW y.natAbs)) (hs : (natW x.natAbs).length ≤ 400000) (hs2 : (natW y.natAbs).length ≤ 400000) : Fun prog (sumF (decide (x < 0) == decide (y < 0))) [.agg #[.bool (decide (x < 0)),va],.agg #[.bool (decide (y < 0)),vb]] I [] (fun v I' _ => IntV I' v (x + y)) := by
 cases h : (decide (x < 0) == decide (y < 0)) with
 | false => exact qv9 va vb x y ha hb hs hs2 (by simpa using h)
 | true => exact qv8 va vb x y ha hb hs hs2 (by simpa using h)
theorem qcl (va vb : Value) (x y : Int) {I : Hp} (ha : Ws I va (natW x.natAbs)) (hb : Ws I vb (natW y.natAbs)) (hs : (natW x.natAbs).length ≤ 400000) (hs2 : (natW y.natAbs).length ≤ 400000) : Fun prog 106 [.agg #[.bool (decide (x < 0)),va],.agg #[.bool (decide (y < 0)),vb]] I [] (fun v I' _ => IntV I' v (x + y)) := by
 intro w hw
 refine qv _ func106 rfl ntmps106 rfl ?_ hw;refine sR ?_;refine qo trivial rfl rfl rfl (fun b2 => ?_);refine qo trivial rfl rfl rfl (fun b3 => ?_);refine qh trivial rfl zeroValue81 rfl (fun b4 => ?_);refine nS ?_;refine vg trivial rfl (qvc) rfl (.cons rfl rfl rfl (by repeat constructor) .nil) ?_;refine qh trivial rfl zeroValue166 rfl (fun b5 => ?_);refine oS sizeOf166 ?_;refine nT ?_;refine jk (ι := Unit) [2,3,4,5] (.cons rfl (.cons rfl (.cons rfl (.cons rfl .nil)))) (fun z E0 => E0) (fun z => St w [] I [.box b5 (.cells [.func (.func (sumF (decide (x < 0) == decide (y < 0)))) #[] #[]].toArray 166 (0,0)),.box b4 (.cells [.bool false,.slice none 0 0].toArray 81 (0,0)),.box b3 (.cells [.bool (decide (y < 0)),vb].toArray 81 (0,0)),.box b2 (.cells [.bool (decide (x < 0)),va].toArray 81 (0,0))]) (fun z => True) ?_ ?_
 ·
  refine sR ?_;refine oF 0 underlying81 sizeOf4 ?_;refine oL isAgg4 ?_;refine oF 0 underlying81 sizeOf4 ?_;refine oL isAgg4 ?_;refine qje trivial rfl rfl rfl underlying4 ?_;refine nT ?_;refine cC rfl (fun h1 => ?_) (fun h1 => ?_)
  ·
   have f1 := h1;try simp only [bl] at f1
   refine cR ?_;refine oF 0 underlying166 sizeOf134 ?_;refine oS sizeOf134 ?_;refine oN ?_;refine meet () (sC rfl (sC rfl (sC rfl (sC rfl sN)))) (fun _ h => ?_) trivial
   rw [h1]; exact h
  have f1 := h1;try simp only [bl] at f1
  refine cK ?_;refine meet () (sC rfl (sC rfl (sC rfl (sC rfl sN)))) (fun _ h => ?_) trivial
  rw [h1]; exact h
 rintro _ _
 try dsimp only
 refine cS ?_
 have hcf := qwa (decide (x < 0) == decide (y < 0))
 refine cR ?_;refine oF 0 underlying166 sizeOf134 ?_;refine oL isAgg134 ?_;iterate 2 refine oA isAgg81 sizeOf81 ?_
 refine qtu trivial rfl rfl hcf rfl rfl (qwb va vb x y ha hb hs hs2) ?_;rintro _ I1 hx1 ⟨u1,rfl,hs1⟩;refine oS sizeOf81 ?_;refine nE ?_;refine retR rfl (.agg isAgg81 sizeOf81 rfl (by repeat constructor) rfl .nil) ?_;exact leaf hx1 (List.nil_sublist _) ⟨u1,rfl,hs1⟩
theorem qnv {a b : Nat} (h : a / Nat.gcd a b = 0) (hb : b ≠ 0) : a = 0 := by
 rcases Nat.eq_zero_or_pos a with h0 | h0
 · exact h0
 · have := Nat.div_pos (Nat.le_of_dvd h0 (Nat.gcd_dvd_left a b)) (Nat.gcd_pos_of_pos_left b h0)
   omega
theorem RatV.zero {I : Hp} {vd : Value} (h : Ws I vd (natW 1)) : RatV I (.agg #[.bool false, .slice none 0 0, vd]) 0 :=
 ⟨.slice none 0 0,vd,rfl,by rw [show (0 : Rat).num.natAbs = 0 from rfl,yh]; exact Ws.nil I,h⟩
theorem qc9 (neg : Bool) (va vb : Value) (A B : List Nat) {I : Hp} (ha : Ws I va A) (hb : Ws I vb B) (hs : A.length ≤ 2000000) (hs2 : B.length ≤ 2000000) : Fun prog 45 [.bool neg,va,vb] I [] (fun v I' _ => RatV I' v (lowQ neg (val A) (val B))) := by
 intro w hw
 refine j5 _ func45 rfl ntmps45 rfl ?_ hw;refine sR ?_;refine qh trivial rfl zeroValue48 rfl (fun b6 => ?_);refine nS ?_;iterate 2 refine oV ?_
 refine oI call69 rfl (qv5 _ _ _ _ ha hb hs hs2) ?_;rintro _ I1 hx1 ⟨u1,u2,rfl,hs1⟩;iterate 7 refine oV ?_
 refine nU ?_;iterate 2 refine oV ?_
 refine' oZ (fun hb19 => ?_) ?_;rotate_left
 ·
  have fb19 := hb19
  try simp only [bl] at fb19
  have hB : val B ≠ 0 := by simpa using hb19
  obtain ⟨hu1,hu2⟩ := hs1 hB
  refine gV hb19 ?_;refine vj (wS rfl rfl hb19) rfl underlying46 rfl (hu1) ?_;refine gV hb19 ?_;refine oN ?_;exact qa rfl
 refine nT ?_;refine cC rfl (fun h1 => ?_) (fun h1 => ?_)
 ·
  have f1 := h1;try simp only [bl] at f1
  have h0 : val B = 0 ∨ val A = 0 := by
    rcases f1 with f1 | f1
    · exact .inl (Decidable.not_not.1 f1)
    · by_cases hB : val B = 0
      · exact .inl hB
      · exact .inr (qnv (jh.1 (by omega)) hB)
  refine sR ?_;refine oI call70 rfl (qji 1 (by decide)) ?_;rintro u3 I2 hx2 hs2';refine vg trivial rfl (zd) rfl (.cons rfl (by exact (Ws.cells1 (by assumption)).1) (by rfl) (by repeat constructor) .nil) ?_;refine oS sizeOf48 ?_;refine nF ?_;refine retR rfl (.agg isAgg48 sizeOf48 rfl (by repeat constructor) rfl .nil) ?_;refine leaf (hx1.trans hx2 (Nat.le_refl _)) (List.nil_sublist _) ?_
  rw [qfs h0]; exact RatV.zero hs2'
 have f1 := h1;try simp only [bl] at f1
 have hB : val B ≠ 0 := fun e => f1.1 e
 obtain ⟨hu1,hu2⟩ := hs1 hB
 have hA : val A ≠ 0 := fun e => f1.2 (by rw [e,Nat.zero_div,yh]; rfl)
 obtain ⟨e1,e2,e3⟩ := qg7 (neg := neg) hA hB
 refine kS ?_;iterate 3 refine oV ?_
 refine vg trivial rfl (zd) rfl (.cons rfl rfl rfl (by repeat constructor) (.cons rfl (by exact (Ws.cells1 (by assumption)).1) (by rfl) (by repeat constructor) (.cons rfl (by exact (Ws.cells1 (by assumption)).1) (by rfl) (by repeat constructor) .nil))) ?_;refine oS sizeOf48 ?_;refine nE ?_;refine retR rfl (.agg isAgg48 sizeOf48 rfl (by repeat constructor) rfl .nil) ?_;refine leaf hx1 (List.nil_sublist _) ⟨u1,u2,?_,?_,?_⟩
 · rw [e3]; rfl
 · rw [e1]; exact hu1
 · rw [e2]; exact hu2
theorem qea (neg : Bool) (va vb : Value) (A B : List Nat) {I : Hp} (ha : Ws I va A) (hb : Ws I vb B) (hs : A.length ≤ 2000000) (hs2 : B.length ≤ 2000000) : Fun prog 30 [.agg #[.bool neg,va,vb]] I [] (fun v I' _ => RatV I' v (lowQ neg (val A) (val B))) := by
 intro w hw
 refine q9 _ func30 rfl ntmps30 rfl ?_ hw;refine sR ?_;refine qo trivial rfl rfl rfl (fun b1 => ?_);refine qh trivial rfl zeroValue48 rfl (fun b2 => ?_);refine nS ?_;refine oF 0 underlying48 sizeOf4 ?_;refine oL isAgg4 ?_;refine oF 1 underlying48 sizeOf46 ?_;refine oL isAgg46 ?_;refine oF 2 underlying48 sizeOf46 ?_;refine oL isAgg46 ?_;refine oI call45 rfl (qc9 neg _ _ _ _ ha hb hs hs2) ?_;rintro _ I1 hx1 ⟨u1,u2,rfl,h1,h2⟩;refine oS sizeOf48 ?_;refine nE ?_;refine retR rfl (.agg isAgg48 sizeOf48 rfl (by repeat constructor) rfl .nil) ?_;exact leaf hx1 (List.nil_sublist _) ⟨u1,u2,rfl,h1,h2⟩
theorem yl (q : Rat) (va vb : Value) {I : Hp} (ha : Ws I va (natW q.num.natAbs)) (hb : Ws I vb (natW q.den)) (hk : Few 100000 q) : Fun prog 105 [.agg #[.bool (decide (q.num < 0)),va,vb]] I [] (fun v I' _ => RatV I' v q) := by
 intro w hw
 refine q9 _ func105 rfl ntmps105 rfl ?_ hw;refine sR ?_;refine qo trivial rfl rfl rfl (fun b1 => ?_);refine qh trivial rfl zeroValue148 rfl (fun b2 => ?_);refine nS ?_;refine oA isAgg48 sizeOf48 ?_;refine oI call30 rfl (qea (decide (q.num < 0)) _ _ _ _ ha hb (yj hk.num (by decide)) (yj hk.den (by decide))) ?_;rintro _ I1 hx1 ⟨u1,u2,rfl,h1,h2⟩;refine vg trivial rfl (qva) rfl (.cons rfl rfl rfl (by repeat constructor) .nil) ?_;refine vg trivial rfl (qvb) rfl (.cons rfl rfl rfl (by repeat constructor) .nil) ?_;refine oS sizeOf148 ?_;refine nE ?_;refine retR rfl (.agg isAgg148 sizeOf148 rfl (by repeat constructor) rfl .nil) ?_
 rw [qb,qb,qa3] at h1 h2
 refine leaf hx1 (List.nil_sublist _) ⟨u1,u2,?_,h1,h2⟩
 rw [qb,qb,qa3]; rfl
theorem qb0 (q : Rat) (va vb : Value) {I : Hp} (ha : Ws I va (natW q.num.natAbs)) (hb : Ws I vb (natW q.den)) : Fun prog 108 [.agg #[.bool (decide (q.num < 0)),va,vb]] I [] (fun v _ _ => v = .agg #[.bool (decide (q.num < 0)),va]) := by
 intro w hw
 refine q9 _ func108 rfl ntmps108 rfl ?_ hw;refine sR ?_;refine qo trivial rfl rfl rfl (fun b1 => ?_);refine qh trivial rfl zeroValue81 rfl (fun b2 => ?_);refine nS ?_;refine oF 0 underlying146 sizeOf48 ?_;refine oF 0 underlying48 sizeOf4 ?_;refine oL isAgg4 ?_;refine oF 0 underlying146 sizeOf48 ?_;refine oF 1 underlying48 sizeOf46 ?_;refine oL isAgg46 ?_;refine vg trivial rfl (zk) rfl (.cons rfl rfl rfl (by repeat constructor) (.cons rfl (by exact (Ws.cells1 (by assumption)).1) (by rfl) (by repeat constructor) .nil)) ?_;refine oS sizeOf81 ?_;refine nE ?_;refine retR rfl (.agg isAgg81 sizeOf81 rfl (by repeat constructor) rfl .nil) ?_;exact qg rfl
theorem qa4 (q : Rat) (va vb : Value) {I : Hp} (ha : Ws I va (natW q.num.natAbs)) (hb : Ws I vb (natW q.den)) : Fun prog 109 [.agg #[.bool (decide (q.num < 0)),va,vb]] I [] (fun v _ _ => v = .agg #[.bool (decide ((q.den : Int) < 0)),vb]) := by
 intro w hw
 refine q9 _ func109 rfl ntmps109 rfl ?_ hw;refine sR ?_;refine qo trivial rfl rfl rfl (fun b1 => ?_);refine qh trivial rfl zeroValue81 rfl (fun b2 => ?_);refine nS ?_;refine oF 0 underlying146 sizeOf48 ?_;refine oF 2 underlying48 sizeOf46 ?_;refine oL isAgg46 ?_;refine vg trivial rfl (zk) rfl (.cons rfl (by exact (Ws.cells1 (by assumption)).1) (by rfl) (by repeat constructor) .nil) ?_;refine oS sizeOf81 ?_;refine nE ?_;refine retR rfl (.agg isAgg81 sizeOf81 rfl (by repeat constructor) rfl .nil) ?_;refine qg ?_; rw [decide_eq_false (by omega)]; rfl
theorem qfu (p q : Rat) : lowQ (decide (p.num * (q.den : Int) + q.num * (p.den : Int) < 0)) (p.num * (q.den : Int) + q.num * (p.den : Int)).natAbs (p.den * q.den) = p + q := by
 rw [qbz,Rat.add_def']
theorem qwc {x y : Int} {m n : Nat} (h1 : (natW x.natAbs).length ≤ 50000) (h2 : (natW m).length ≤ 50000) (h3 : (natW y.natAbs).length ≤ 50000) (h4 : (natW n).length ≤ 50000) : (natW (x * (m : Int) + y * (n : Int)).natAbs).length ≤ 2000000 := by
 have e1 : (natW (x * (m : Int)).natAbs).length ≤ 100000 := by rw [Int.natAbs_mul]; exact Nat.le_trans (yq _ _) (by rw [Int.natAbs_natCast]; omega)
 have e2 : (natW (y * (n : Int)).natAbs).length ≤ 100000 := by rw [Int.natAbs_mul]; exact Nat.le_trans (yq _ _) (by rw [Int.natAbs_natCast]; omega)
 have h := qd9 _ _ 100000 e1 e2
 have h2 := y8 (Int.natAbs_add_le (x * (m : Int)) (y * (n : Int)))
 omega
theorem qnw (p q : Rat) (va vb vc vd : Value) {I : Hp} (ha : Ws I va (natW p.num.natAbs)) (hb : Ws I vb (natW p.den)) (hc : Ws I vc (natW q.num.natAbs)) (hd : Ws I vd (natW q.den)) (hp : Few 50000 p) (hq : Few 50000 q) : Fun prog 73 [.agg #[.bool (decide (p.num < 0)),va,vb],.agg #[.bool (decide (q.num < 0)),vc,vd]] I [] (fun v I' _ => RatV I' v (p + q)) := by
 have hl1 := yj hp.num (Nat.le_refl _)
 have hl2 := yj hp.den (Nat.le_refl _)
 have hl3 := yj hq.num (Nat.le_refl _)
 have hl4 := yj hq.den (Nat.le_refl _)
 intro w hw
 refine qv _ func73 rfl ntmps73 rfl ?_ hw;refine sR ?_;refine qo trivial rfl rfl rfl (fun b2 => ?_);refine qo trivial rfl rfl rfl (fun b3 => ?_);refine qh trivial rfl zeroValue48 rfl (fun b4 => ?_);refine nT ?_;refine jk (ι := Nat × Nat × Value × Value × Value × Value × Hp) [4] (.cons rfl .nil) (fun z E0 => (5,.pointer (some ⟨z.1,0,none⟩)) :: (6,.pointer (some ⟨z.2.1,0,none⟩)) :: E0) (fun z => St w [] z.2.2.2.2.2.2 [.box b4 (.cells [.bool false,.slice none 0 0,.slice none 0 0].toArray 48 (0,0)),.box z.1 (.cells [.bool (decide (p.num < 0)),z.2.2.1,z.2.2.2.1].toArray 148 (0,0)),.box z.2.1 (.cells [.bool (decide (q.num < 0)),z.2.2.2.2.1,z.2.2.2.2.2.1].toArray 148 (0,0))]) (fun z => Ws z.2.2.2.2.2.2 z.2.2.1 (natW p.num.natAbs) ∧ Ws z.2.2.2.2.2.2 z.2.2.2.1 (natW p.den) ∧ Ws z.2.2.2.2.2.2 z.2.2.2.2.1 (natW q.num.natAbs) ∧ Ws z.2.2.2.2.2.2 z.2.2.2.2.2.1 (natW q.den) ∧ Ext w.heap.size I z.2.2.2.2.2.2) ?_ ?_
 ·
  refine yb (m := 8) [.box b2 _,.box b3 _] (by repeat constructor) (by kernel_rfl) rfl ?_;refine qT (i := 0) (qB 8 1) (Hp.Le.refl _) rfl rfl (oA isAgg48 sizeOf48 qF) ?_;refine qT (i := 2) (qB 8 5) (Hp.Le.refl _) rfl rfl (oA isAgg48 sizeOf48 qF) ?_;refine h_go [1,4,5] (by kernel_rfl) rfl (TWHs.cons ?_ (TWHs.cons ?_ (TWHs.cons ?_ TWHs.nil)))
  ·
   refine qP (qB 8 7) rfl ?_;refine oI call105 rfl (yl p _ _ ha hb (hp.le (by decide))) ?_;rintro _ I1 hx1 ⟨n1,d1,rfl,hn1,hd1⟩;refine qM (hx1.le) ?_;refine h_go [3,4,5] (by kernel_rfl) rfl (TWHs.cons ?_ (TWHs.cons ?_ (TWHs.cons ?_ TWHs.nil)))
   ·
    refine qP (qB 8 15) rfl ?_;refine oI call105 rfl (yl q _ _ (hc.le hx1.le) (hd.le hx1.le) (hq.le (by decide))) ?_;rintro _ I2 hx2 ⟨n2,d2,rfl,hn2,hd2⟩;refine qM ((hx1.le).trans hx2.le) ?_;refine h_go [4,5] (by kernel_rfl) rfl (TWHs.cons ?_ (TWHs.cons ?_ TWHs.nil))
    ·
     refine qP (qB 8 31) rfl ?_;refine qh trivial rfl zeroValue148 rfl (fun b5 => ?_);refine qM ((hx1.le).trans hx2.le) ?_;refine qO (i := 5) (qB 8 63) rfl ?_;refine qh trivial rfl zeroValue148 rfl (fun b6 => ?_);refine qM ((hx1.le).trans hx2.le) ?_;refine qO (i := 6) (qB 8 127) rfl ?_;refine oS sizeOf148 ?_;refine qM ((hx1.le).trans hx2.le) ?_;refine qO (i := 7) (qB 8 255) rfl ?_;refine oS sizeOf148 ?_;refine qM ((hx1.le).trans hx2.le) ?_;refine qn (by kernel_rfl) ?_;exact meet (b5,b6,n1,d1,n2,d2,I2) (sC rfl (sC rfl (sC rfl sN))) (fun _ h => h.sort (by repeat constructor)) ⟨hn1.le hx2.le,hd1.le hx2.le,hn2,hd2,hx1.trans hx2 (Nat.le_refl _)⟩
    refine qP (qB 8 47) rfl ?_;refine qh trivial rfl zeroValue148 rfl (fun b6 => ?_);refine qM ((hx1.le).trans hx2.le) ?_;refine qO (i := 4) (qB 8 63) rfl ?_;refine qh trivial rfl zeroValue148 rfl (fun b5 => ?_);refine qM ((hx1.le).trans hx2.le) ?_;refine qO (i := 6) (qB 8 127) rfl ?_;refine oS sizeOf148 ?_;refine qM ((hx1.le).trans hx2.le) ?_;refine qO (i := 7) (qB 8 255) rfl ?_;refine oS sizeOf148 ?_;refine qM ((hx1.le).trans hx2.le) ?_;refine qn (by kernel_rfl) ?_;exact meet (b5,b6,n1,d1,n2,d2,I2) (sC rfl (sC rfl (sC rfl sN))) (fun _ h => h.sort (by repeat constructor)) ⟨hn1.le hx2.le,hd1.le hx2.le,hn2,hd2,hx1.trans hx2 (Nat.le_refl _)⟩
   ·
    refine qP (qB 8 23) rfl ?_;refine qh trivial rfl zeroValue148 rfl (fun b5 => ?_);refine qM (hx1.le) ?_;refine h_go [3,5] (by kernel_rfl) rfl (TWHs.cons ?_ (TWHs.cons ?_ TWHs.nil))
    ·
     refine qP (qB 8 31) rfl ?_;refine oI call105 rfl (yl q _ _ (hc.le hx1.le) (hd.le hx1.le) (hq.le (by decide))) ?_;rintro _ I2 hx2 ⟨n2,d2,rfl,hn2,hd2⟩;refine qM ((hx1.le).trans hx2.le) ?_;refine qO (i := 5) (qB 8 63) rfl ?_;refine qh trivial rfl zeroValue148 rfl (fun b6 => ?_);refine qM ((hx1.le).trans hx2.le) ?_;refine qO (i := 6) (qB 8 127) rfl ?_;refine oS sizeOf148 ?_;refine qM ((hx1.le).trans hx2.le) ?_;refine qO (i := 7) (qB 8 255) rfl ?_;refine oS sizeOf148 ?_;refine qM ((hx1.le).trans hx2.le) ?_;refine qn (by kernel_rfl) ?_;exact meet (b5,b6,n1,d1,n2,d2,I2) (sC rfl (sC rfl (sC rfl sN))) (fun _ h => h.sort (by repeat constructor)) ⟨hn1.le hx2.le,hd1.le hx2.le,hn2,hd2,hx1.trans hx2 (Nat.le_refl _)⟩
    refine qP (qB 8 55) rfl ?_;refine qh trivial rfl zeroValue148 rfl (fun b6 => ?_);refine qM (hx1.le) ?_;refine qO (i := 3) (qB 8 63) rfl ?_;refine oI call105 rfl (yl q _ _ (hc.le hx1.le) (hd.le hx1.le) (hq.le (by decide))) ?_;rintro _ I2 hx2 ⟨n2,d2,rfl,hn2,hd2⟩;refine qM ((hx1.le).trans hx2.le) ?_;refine qO (i := 6) (qB 8 127) rfl ?_;refine oS sizeOf148 ?_;refine qM ((hx1.le).trans hx2.le) ?_;refine qO (i := 7) (qB 8 255) rfl ?_;refine oS sizeOf148 ?_;refine qM ((hx1.le).trans hx2.le) ?_;refine qn (by kernel_rfl) ?_;exact meet (b5,b6,n1,d1,n2,d2,I2) (sC rfl (sC rfl (sC rfl sN))) (fun _ h => h.sort (by repeat constructor)) ⟨hn1.le hx2.le,hd1.le hx2.le,hn2,hd2,hx1.trans hx2 (Nat.le_refl _)⟩
   refine qP (qB 8 39) rfl ?_;refine qh trivial rfl zeroValue148 rfl (fun b6 => ?_);refine qM (hx1.le) ?_;refine h_go [3,4] (by kernel_rfl) rfl (TWHs.cons ?_ (TWHs.cons ?_ TWHs.nil))
   ·
    refine qP (qB 8 47) rfl ?_;refine oI call105 rfl (yl q _ _ (hc.le hx1.le) (hd.le hx1.le) (hq.le (by decide))) ?_;rintro _ I2 hx2 ⟨n2,d2,rfl,hn2,hd2⟩;refine qM ((hx1.le).trans hx2.le) ?_;refine qO (i := 4) (qB 8 63) rfl ?_;refine qh trivial rfl zeroValue148 rfl (fun b5 => ?_);refine qM ((hx1.le).trans hx2.le) ?_;refine qO (i := 6) (qB 8 127) rfl ?_;refine oS sizeOf148 ?_;refine qM ((hx1.le).trans hx2.le) ?_;refine qO (i := 7) (qB 8 255) rfl ?_;refine oS sizeOf148 ?_;refine qM ((hx1.le).trans hx2.le) ?_;refine qn (by kernel_rfl) ?_;exact meet (b5,b6,n1,d1,n2,d2,I2) (sC rfl (sC rfl (sC rfl sN))) (fun _ h => h.sort (by repeat constructor)) ⟨hn1.le hx2.le,hd1.le hx2.le,hn2,hd2,hx1.trans hx2 (Nat.le_refl _)⟩
   refine qP (qB 8 55) rfl ?_;refine qh trivial rfl zeroValue148 rfl (fun b5 => ?_);refine qM (hx1.le) ?_;refine qO (i := 3) (qB 8 63) rfl ?_;refine oI call105 rfl (yl q _ _ (hc.le hx1.le) (hd.le hx1.le) (hq.le (by decide))) ?_;rintro _ I2 hx2 ⟨n2,d2,rfl,hn2,hd2⟩;refine qM ((hx1.le).trans hx2.le) ?_;refine qO (i := 6) (qB 8 127) rfl ?_;refine oS sizeOf148 ?_;refine qM ((hx1.le).trans hx2.le) ?_;refine qO (i := 7) (qB 8 255) rfl ?_;refine oS sizeOf148 ?_;refine qM ((hx1.le).trans hx2.le) ?_;refine qn (by kernel_rfl) ?_;exact meet (b5,b6,n1,d1,n2,d2,I2) (sC rfl (sC rfl (sC rfl sN))) (fun _ h => h.sort (by repeat constructor)) ⟨hn1.le hx2.le,hd1.le hx2.le,hn2,hd2,hx1.trans hx2 (Nat.le_refl _)⟩
  ·
   refine qP (qB 8 21) rfl ?_;refine qh trivial rfl zeroValue148 rfl (fun b5 => ?_);refine qM (Hp.Le.refl _) ?_;refine h_go [1,5] (by kernel_rfl) rfl (TWHs.cons ?_ (TWHs.cons ?_ TWHs.nil))
   ·
    refine qP (qB 8 23) rfl ?_;refine oI call105 rfl (yl p _ _ ha hb (hp.le (by decide))) ?_;rintro _ I1 hx1 ⟨n1,d1,rfl,hn1,hd1⟩;refine qM (hx1.le) ?_;refine h_go [3,5] (by kernel_rfl) rfl (TWHs.cons ?_ (TWHs.cons ?_ TWHs.nil))
    ·
     refine qP (qB 8 31) rfl ?_;refine oI call105 rfl (yl q _ _ (hc.le hx1.le) (hd.le hx1.le) (hq.le (by decide))) ?_;rintro _ I2 hx2 ⟨n2,d2,rfl,hn2,hd2⟩;refine qM ((hx1.le).trans hx2.le) ?_;refine qO (i := 5) (qB 8 63) rfl ?_;refine qh trivial rfl zeroValue148 rfl (fun b6 => ?_);refine qM ((hx1.le).trans hx2.le) ?_;refine qO (i := 6) (qB 8 127) rfl ?_;refine oS sizeOf148 ?_;refine qM ((hx1.le).trans hx2.le) ?_;refine qO (i := 7) (qB 8 255) rfl ?_;refine oS sizeOf148 ?_;refine qM ((hx1.le).trans hx2.le) ?_;refine qn (by kernel_rfl) ?_;exact meet (b5,b6,n1,d1,n2,d2,I2) (sC rfl (sC rfl (sC rfl sN))) (fun _ h => h.sort (by repeat constructor)) ⟨hn1.le hx2.le,hd1.le hx2.le,hn2,hd2,hx1.trans hx2 (Nat.le_refl _)⟩
    refine qP (qB 8 55) rfl ?_;refine qh trivial rfl zeroValue148 rfl (fun b6 => ?_);refine qM (hx1.le) ?_;refine qO (i := 3) (qB 8 63) rfl ?_;refine oI call105 rfl (yl q _ _ (hc.le hx1.le) (hd.le hx1.le) (hq.le (by decide))) ?_;rintro _ I2 hx2 ⟨n2,d2,rfl,hn2,hd2⟩;refine qM ((hx1.le).trans hx2.le) ?_;refine qO (i := 6) (qB 8 127) rfl ?_;refine oS sizeOf148 ?_;refine qM ((hx1.le).trans hx2.le) ?_;refine qO (i := 7) (qB 8 255) rfl ?_;refine oS sizeOf148 ?_;refine qM ((hx1.le).trans hx2.le) ?_;refine qn (by kernel_rfl) ?_;exact meet (b5,b6,n1,d1,n2,d2,I2) (sC rfl (sC rfl (sC rfl sN))) (fun _ h => h.sort (by repeat constructor)) ⟨hn1.le hx2.le,hd1.le hx2.le,hn2,hd2,hx1.trans hx2 (Nat.le_refl _)⟩
   refine qP (qB 8 53) rfl ?_;refine qh trivial rfl zeroValue148 rfl (fun b6 => ?_);refine qM (Hp.Le.refl _) ?_;refine qO (i := 1) (qB 8 55) rfl ?_;refine oI call105 rfl (yl p _ _ ha hb (hp.le (by decide))) ?_;rintro _ I1 hx1 ⟨n1,d1,rfl,hn1,hd1⟩;refine qM (hx1.le) ?_;refine qO (i := 3) (qB 8 63) rfl ?_;refine oI call105 rfl (yl q _ _ (hc.le hx1.le) (hd.le hx1.le) (hq.le (by decide))) ?_;rintro _ I2 hx2 ⟨n2,d2,rfl,hn2,hd2⟩;refine qM ((hx1.le).trans hx2.le) ?_;refine qO (i := 6) (qB 8 127) rfl ?_;refine oS sizeOf148 ?_;refine qM ((hx1.le).trans hx2.le) ?_;refine qO (i := 7) (qB 8 255) rfl ?_;refine oS sizeOf148 ?_;refine qM ((hx1.le).trans hx2.le) ?_;refine qn (by kernel_rfl) ?_;exact meet (b5,b6,n1,d1,n2,d2,I2) (sC rfl (sC rfl (sC rfl sN))) (fun _ h => h.sort (by repeat constructor)) ⟨hn1.le hx2.le,hd1.le hx2.le,hn2,hd2,hx1.trans hx2 (Nat.le_refl _)⟩
  refine qP (qB 8 37) rfl ?_;refine qh trivial rfl zeroValue148 rfl (fun b6 => ?_);refine qM (Hp.Le.refl _) ?_;refine h_go [1,4] (by kernel_rfl) rfl (TWHs.cons ?_ (TWHs.cons ?_ TWHs.nil))
  ·
   refine qP (qB 8 39) rfl ?_;refine oI call105 rfl (yl p _ _ ha hb (hp.le (by decide))) ?_;rintro _ I1 hx1 ⟨n1,d1,rfl,hn1,hd1⟩;refine qM (hx1.le) ?_;refine h_go [3,4] (by kernel_rfl) rfl (TWHs.cons ?_ (TWHs.cons ?_ TWHs.nil))
   ·
    refine qP (qB 8 47) rfl ?_;refine oI call105 rfl (yl q _ _ (hc.le hx1.le) (hd.le hx1.le) (hq.le (by decide))) ?_;rintro _ I2 hx2 ⟨n2,d2,rfl,hn2,hd2⟩;refine qM ((hx1.le).trans hx2.le) ?_;refine qO (i := 4) (qB 8 63) rfl ?_;refine qh trivial rfl zeroValue148 rfl (fun b5 => ?_);refine qM ((hx1.le).trans hx2.le) ?_;refine qO (i := 6) (qB 8 127) rfl ?_;refine oS sizeOf148 ?_;refine qM ((hx1.le).trans hx2.le) ?_;refine qO (i := 7) (qB 8 255) rfl ?_;refine oS sizeOf148 ?_;refine qM ((hx1.le).trans hx2.le) ?_;refine qn (by kernel_rfl) ?_;exact meet (b5,b6,n1,d1,n2,d2,I2) (sC rfl (sC rfl (sC rfl sN))) (fun _ h => h.sort (by repeat constructor)) ⟨hn1.le hx2.le,hd1.le hx2.le,hn2,hd2,hx1.trans hx2 (Nat.le_refl _)⟩
   refine qP (qB 8 55) rfl ?_;refine qh trivial rfl zeroValue148 rfl (fun b5 => ?_);refine qM (hx1.le) ?_;refine qO (i := 3) (qB 8 63) rfl ?_;refine oI call105 rfl (yl q _ _ (hc.le hx1.le) (hd.le hx1.le) (hq.le (by decide))) ?_;rintro _ I2 hx2 ⟨n2,d2,rfl,hn2,hd2⟩;refine qM ((hx1.le).trans hx2.le) ?_;refine qO (i := 6) (qB 8 127) rfl ?_;refine oS sizeOf148 ?_;refine qM ((hx1.le).trans hx2.le) ?_;refine qO (i := 7) (qB 8 255) rfl ?_;refine oS sizeOf148 ?_;refine qM ((hx1.le).trans hx2.le) ?_;refine qn (by kernel_rfl) ?_;exact meet (b5,b6,n1,d1,n2,d2,I2) (sC rfl (sC rfl (sC rfl sN))) (fun _ h => h.sort (by repeat constructor)) ⟨hn1.le hx2.le,hd1.le hx2.le,hn2,hd2,hx1.trans hx2 (Nat.le_refl _)⟩
  refine qP (qB 8 53) rfl ?_;refine qh trivial rfl zeroValue148 rfl (fun b5 => ?_);refine qM (Hp.Le.refl _) ?_;refine qO (i := 1) (qB 8 55) rfl ?_;refine oI call105 rfl (yl p _ _ ha hb (hp.le (by decide))) ?_;rintro _ I1 hx1 ⟨n1,d1,rfl,hn1,hd1⟩;refine qM (hx1.le) ?_;refine qO (i := 3) (qB 8 63) rfl ?_;refine oI call105 rfl (yl q _ _ (hc.le hx1.le) (hd.le hx1.le) (hq.le (by decide))) ?_;rintro _ I2 hx2 ⟨n2,d2,rfl,hn2,hd2⟩;refine qM ((hx1.le).trans hx2.le) ?_;refine qO (i := 6) (qB 8 127) rfl ?_;refine oS sizeOf148 ?_;refine qM ((hx1.le).trans hx2.le) ?_;refine qO (i := 7) (qB 8 255) rfl ?_;refine oS sizeOf148 ?_;refine qM ((hx1.le).trans hx2.le) ?_;refine qn (by kernel_rfl) ?_;exact meet (b5,b6,n1,d1,n2,d2,I2) (sC rfl (sC rfl (sC rfl sN))) (fun _ h => h.sort (by repeat constructor)) ⟨hn1.le hx2.le,hd1.le hx2.le,hn2,hd2,hx1.trans hx2 (Nat.le_refl _)⟩
 rintro ⟨b5,b6,n1,d1,n2,d2,I2⟩ ⟨hn1,hd1,hn2,hd2,hx2⟩
 try dsimp only
 refine jk (ι := Nat × Value × Hp) [4,5,6] (.cons rfl (.cons rfl (.cons rfl .nil))) (fun y E0 => (7,.pointer (some ⟨y.1,0,none⟩)) :: E0) (fun y => St w [] y.2.2 [.box y.1 (.cells [.bool (decide (p.num * (q.den : Int) + q.num * (p.den : Int) < 0)),y.2.1].toArray 81 (0,0)),.box b4 (.cells [.bool false,.slice none 0 0,.slice none 0 0].toArray 48 (0,0)),.box b5 (.cells [.bool (decide (p.num < 0)),n1,d1].toArray 148 (0,0)),.box b6 (.cells [.bool (decide (q.num < 0)),n2,d2].toArray 148 (0,0))]) (fun y => Ws y.2.2 y.2.1 (natW (p.num * (q.den : Int) + q.num * (p.den : Int)).natAbs) ∧ Ws y.2.2 d1 (natW p.den) ∧ Ws y.2.2 d2 (natW q.den) ∧ Ext w.heap.size I y.2.2) ?_ ?_
 ·
  refine yb (m := 17) [.box b5 _,.box b6 _] (by repeat constructor) (by kernel_rfl) rfl ?_;refine qT (i := 0) (qB 17 1) (Hp.Le.refl _) rfl rfl (oF 0 underlying148 sizeOf146 qF) ?_;refine qT (i := 1) (qB 17 3) (Hp.Le.refl _) rfl rfl (oA isAgg146 sizeOf146 qF) ?_;refine qT (i := 3) (qB 17 11) (Hp.Le.refl _) rfl rfl (oF 0 underlying148 sizeOf146 qF) ?_;refine qT (i := 4) (qB 17 27) (Hp.Le.refl _) rfl rfl (oA isAgg146 sizeOf146 qF) ?_;refine qT (i := 7) (qB 17 155) (Hp.Le.refl _) rfl rfl (oF 0 underlying148 sizeOf146 qF) ?_;refine qT (i := 8) (qB 17 411) (Hp.Le.refl _) rfl rfl (oA isAgg146 sizeOf146 qF) ?_;refine qT (i := 10) (qB 17 1435) (Hp.Le.refl _) rfl rfl (oF 0 underlying148 sizeOf146 qF) ?_;refine qT (i := 11) (qB 17 3483) (Hp.Le.refl _) rfl rfl (oA isAgg146 sizeOf146 qF) ?_;refine h_go [2,15] (by kernel_rfl) rfl (TWHs.cons ?_ (TWHs.cons ?_ TWHs.nil))
  ·
   refine qP (qB 17 3487) rfl ?_;refine oQ call108 rfl (qb0 p _ _ hn1 hd1) ?_;refine qM (Hp.Le.refl _) ?_;refine h_go [5,15] (by kernel_rfl) rfl (TWHs.cons ?_ (TWHs.cons ?_ TWHs.nil))
   ·
    refine qP (qB 17 3519) rfl ?_;refine oQ call109 rfl (qa4 q _ _ hn2 hd2) ?_;refine qM (Hp.Le.refl _) ?_;refine h_go [6,15] (by kernel_rfl) rfl (TWHs.cons ?_ (TWHs.cons ?_ TWHs.nil))
    ·
     refine qP (qB 17 3583) rfl ?_;refine oI call107 rfl (qae _ _ p.num (q.den : Int) hn1 hd2 (by omega) (by rw [Int.natAbs_natCast]; omega)) ?_;rintro _ I3 hx3 ⟨u3,rfl,hs3⟩;refine qM (hx3.le) ?_;refine h_go [9,15] (by kernel_rfl) rfl (TWHs.cons ?_ (TWHs.cons ?_ TWHs.nil))
     ·
      refine qP (qB 17 4095) rfl ?_;refine oQ call108 rfl (qb0 q _ _ (hn2.le hx3.le) (hd2.le hx3.le)) ?_;refine qM (hx3.le) ?_;refine h_go [12,15] (by kernel_rfl) rfl (TWHs.cons ?_ (TWHs.cons ?_ TWHs.nil))
      ·
       refine qP (qB 17 8191) rfl ?_;refine oQ call109 rfl (qa4 p _ _ (hn1.le hx3.le) (hd1.le hx3.le)) ?_;refine qM (hx3.le) ?_;refine h_go [13,15] (by kernel_rfl) rfl (TWHs.cons ?_ (TWHs.cons ?_ TWHs.nil))
       ·
        refine qP (qB 17 16383) rfl ?_;refine oI call107 rfl (qae _ _ q.num (p.den : Int) (hn2.le hx3.le) (hd1.le hx3.le) (by omega) (by rw [Int.natAbs_natCast]; omega)) ?_;rintro _ I4 hx4 ⟨u4,rfl,hs4⟩;refine qM ((hx3.le).trans hx4.le) ?_;refine h_go [14,15] (by kernel_rfl) rfl (TWHs.cons ?_ (TWHs.cons ?_ TWHs.nil))
        ·
         refine qP (qB 17 32767) rfl ?_;refine oI call106 rfl (qcl _ _ (p.num * (q.den : Int)) (q.num * (p.den : Int)) (hs3.le hx4.le) hs4 (by rw [Int.natAbs_mul]; exact Nat.le_trans (yq _ _) (by rw [Int.natAbs_natCast]; omega)) (by rw [Int.natAbs_mul]; exact Nat.le_trans (yq _ _) (by rw [Int.natAbs_natCast]; omega))) ?_;rintro _ I5 hx5 ⟨u5,rfl,hs5⟩;refine qM (((hx3.le).trans hx4.le).trans hx5.le) ?_;refine qO (i := 15) (qB 17 65535) rfl ?_;refine qh trivial rfl zeroValue81 rfl (fun b7 => ?_);refine qM (((hx3.le).trans hx4.le).trans hx5.le) ?_;refine qO (i := 16) (qB 17 131071) rfl ?_;refine oS sizeOf81 ?_;refine qM (((hx3.le).trans hx4.le).trans hx5.le) ?_;refine qn (by kernel_rfl) ?_;exact meet (b7,u5,I5) (sC rfl (sC rfl (sC rfl (sC rfl sN)))) (fun _ h => h.sort (by repeat constructor)) ⟨hs5,hd1.le (hx3.le.trans (hx4.le.trans hx5.le)),hd2.le (hx3.le.trans (hx4.le.trans hx5.le)),hx2.trans (hx3.trans (hx4.trans hx5 (Nat.le_refl _)) (Nat.le_refl _)) (Nat.le_refl _)⟩
        refine qP (qB 17 49151) rfl ?_;refine qh trivial rfl zeroValue81 rfl (fun b7 => ?_);refine qM ((hx3.le).trans hx4.le) ?_;refine qO (i := 14) (qB 17 65535) rfl ?_;refine oI call106 rfl (qcl _ _ (p.num * (q.den : Int)) (q.num * (p.den : Int)) (hs3.le hx4.le) hs4 (by rw [Int.natAbs_mul]; exact Nat.le_trans (yq _ _) (by rw [Int.natAbs_natCast]; omega)) (by rw [Int.natAbs_mul]; exact Nat.le_trans (yq _ _) (by rw [Int.natAbs_natCast]; omega))) ?_;rintro _ I5 hx5 ⟨u5,rfl,hs5⟩;refine qM (((hx3.le).trans hx4.le).trans hx5.le) ?_;refine qO (i := 16) (qB 17 131071) rfl ?_;refine oS sizeOf81 ?_;refine qM (((hx3.le).trans hx4.le).trans hx5.le) ?_;refine qn (by kernel_rfl) ?_;exact meet (b7,u5,I5) (sC rfl (sC rfl (sC rfl (sC rfl sN)))) (fun _ h => h.sort (by repeat constructor)) ⟨hs5,hd1.le (hx3.le.trans (hx4.le.trans hx5.le)),hd2.le (hx3.le.trans (hx4.le.trans hx5.le)),hx2.trans (hx3.trans (hx4.trans hx5 (Nat.le_refl _)) (Nat.le_refl _)) (Nat.le_refl _)⟩
       refine qP (qB 17 40959) rfl ?_;refine qh trivial rfl zeroValue81 rfl (fun b7 => ?_);refine qM (hx3.le) ?_;refine qO (i := 13) (qB 17 49151) rfl ?_;refine oI call107 rfl (qae _ _ q.num (p.den : Int) (hn2.le hx3.le) (hd1.le hx3.le) (by omega) (by rw [Int.natAbs_natCast]; omega)) ?_;rintro _ I4 hx4 ⟨u4,rfl,hs4⟩;refine qM ((hx3.le).trans hx4.le) ?_;refine qO (i := 14) (qB 17 65535) rfl ?_;refine oI call106 rfl (qcl _ _ (p.num * (q.den : Int)) (q.num * (p.den : Int)) (hs3.le hx4.le) hs4 (by rw [Int.natAbs_mul]; exact Nat.le_trans (yq _ _) (by rw [Int.natAbs_natCast]; omega)) (by rw [Int.natAbs_mul]; exact Nat.le_trans (yq _ _) (by rw [Int.natAbs_natCast]; omega))) ?_;rintro _ I5 hx5 ⟨u5,rfl,hs5⟩;refine qM (((hx3.le).trans hx4.le).trans hx5.le) ?_;refine qO (i := 16) (qB 17 131071) rfl ?_;refine oS sizeOf81 ?_;refine qM (((hx3.le).trans hx4.le).trans hx5.le) ?_;refine qn (by kernel_rfl) ?_;exact meet (b7,u5,I5) (sC rfl (sC rfl (sC rfl (sC rfl sN)))) (fun _ h => h.sort (by repeat constructor)) ⟨hs5,hd1.le (hx3.le.trans (hx4.le.trans hx5.le)),hd2.le (hx3.le.trans (hx4.le.trans hx5.le)),hx2.trans (hx3.trans (hx4.trans hx5 (Nat.le_refl _)) (Nat.le_refl _)) (Nat.le_refl _)⟩
      refine qP (qB 17 36863) rfl ?_;refine qh trivial rfl zeroValue81 rfl (fun b7 => ?_);refine qM (hx3.le) ?_;refine qO (i := 12) (qB 17 40959) rfl ?_;refine oQ call109 rfl (qa4 p _ _ (hn1.le hx3.le) (hd1.le hx3.le)) ?_;refine qM (hx3.le) ?_;refine qO (i := 13) (qB 17 49151) rfl ?_;refine oI call107 rfl (qae _ _ q.num (p.den : Int) (hn2.le hx3.le) (hd1.le hx3.le) (by omega) (by rw [Int.natAbs_natCast]; omega)) ?_;rintro _ I4 hx4 ⟨u4,rfl,hs4⟩;refine qM ((hx3.le).trans hx4.le) ?_;refine qO (i := 14) (qB 17 65535) rfl ?_;refine oI call106 rfl (qcl _ _ (p.num * (q.den : Int)) (q.num * (p.den : Int)) (hs3.le hx4.le) hs4 (by rw [Int.natAbs_mul]; exact Nat.le_trans (yq _ _) (by rw [Int.natAbs_natCast]; omega)) (by rw [Int.natAbs_mul]; exact Nat.le_trans (yq _ _) (by rw [Int.natAbs_natCast]; omega))) ?_;rintro _ I5 hx5 ⟨u5,rfl,hs5⟩;refine qM (((hx3.le).trans hx4.le).trans hx5.le) ?_;refine qO (i := 16) (qB 17 131071) rfl ?_;refine oS sizeOf81 ?_;refine qM (((hx3.le).trans hx4.le).trans hx5.le) ?_;refine qn (by kernel_rfl) ?_;exact meet (b7,u5,I5) (sC rfl (sC rfl (sC rfl (sC rfl sN)))) (fun _ h => h.sort (by repeat constructor)) ⟨hs5,hd1.le (hx3.le.trans (hx4.le.trans hx5.le)),hd2.le (hx3.le.trans (hx4.le.trans hx5.le)),hx2.trans (hx3.trans (hx4.trans hx5 (Nat.le_refl _)) (Nat.le_refl _)) (Nat.le_refl _)⟩
     refine qP (qB 17 36351) rfl ?_;refine qh trivial rfl zeroValue81 rfl (fun b7 => ?_);refine qM (hx3.le) ?_;refine qO (i := 9) (qB 17 36863) rfl ?_;refine oQ call108 rfl (qb0 q _ _ (hn2.le hx3.le) (hd2.le hx3.le)) ?_;refine qM (hx3.le) ?_;refine qO (i := 12) (qB 17 40959) rfl ?_;refine oQ call109 rfl (qa4 p _ _ (hn1.le hx3.le) (hd1.le hx3.le)) ?_;refine qM (hx3.le) ?_;refine qO (i := 13) (qB 17 49151) rfl ?_;refine oI call107 rfl (qae _ _ q.num (p.den : Int) (hn2.le hx3.le) (hd1.le hx3.le) (by omega) (by rw [Int.natAbs_natCast]; omega)) ?_;rintro _ I4 hx4 ⟨u4,rfl,hs4⟩;refine qM ((hx3.le).trans hx4.le) ?_;refine qO (i := 14) (qB 17 65535) rfl ?_;refine oI call106 rfl (qcl _ _ (p.num * (q.den : Int)) (q.num * (p.den : Int)) (hs3.le hx4.le) hs4 (by rw [Int.natAbs_mul]; exact Nat.le_trans (yq _ _) (by rw [Int.natAbs_natCast]; omega)) (by rw [Int.natAbs_mul]; exact Nat.le_trans (yq _ _) (by rw [Int.natAbs_natCast]; omega))) ?_;rintro _ I5 hx5 ⟨u5,rfl,hs5⟩;refine qM (((hx3.le).trans hx4.le).trans hx5.le) ?_;refine qO (i := 16) (qB 17 131071) rfl ?_;refine oS sizeOf81 ?_;refine qM (((hx3.le).trans hx4.le).trans hx5.le) ?_;refine qn (by kernel_rfl) ?_;exact meet (b7,u5,I5) (sC rfl (sC rfl (sC rfl (sC rfl sN)))) (fun _ h => h.sort (by repeat constructor)) ⟨hs5,hd1.le (hx3.le.trans (hx4.le.trans hx5.le)),hd2.le (hx3.le.trans (hx4.le.trans hx5.le)),hx2.trans (hx3.trans (hx4.trans hx5 (Nat.le_refl _)) (Nat.le_refl _)) (Nat.le_refl _)⟩
    refine qP (qB 17 36287) rfl ?_;refine qh trivial rfl zeroValue81 rfl (fun b7 => ?_);refine qM (Hp.Le.refl _) ?_;refine qO (i := 6) (qB 17 36351) rfl ?_;refine oI call107 rfl (qae _ _ p.num (q.den : Int) hn1 hd2 (by omega) (by rw [Int.natAbs_natCast]; omega)) ?_;rintro _ I3 hx3 ⟨u3,rfl,hs3⟩;refine qM (hx3.le) ?_;refine qO (i := 9) (qB 17 36863) rfl ?_;refine oQ call108 rfl (qb0 q _ _ (hn2.le hx3.le) (hd2.le hx3.le)) ?_;refine qM (hx3.le) ?_;refine qO (i := 12) (qB 17 40959) rfl ?_;refine oQ call109 rfl (qa4 p _ _ (hn1.le hx3.le) (hd1.le hx3.le)) ?_;refine qM (hx3.le) ?_;refine qO (i := 13) (qB 17 49151) rfl ?_;refine oI call107 rfl (qae _ _ q.num (p.den : Int) (hn2.le hx3.le) (hd1.le hx3.le) (by omega) (by rw [Int.natAbs_natCast]; omega)) ?_;rintro _ I4 hx4 ⟨u4,rfl,hs4⟩;refine qM ((hx3.le).trans hx4.le) ?_;refine qO (i := 14) (qB 17 65535) rfl ?_;refine oI call106 rfl (qcl _ _ (p.num * (q.den : Int)) (q.num * (p.den : Int)) (hs3.le hx4.le) hs4 (by rw [Int.natAbs_mul]; exact Nat.le_trans (yq _ _) (by rw [Int.natAbs_natCast]; omega)) (by rw [Int.natAbs_mul]; exact Nat.le_trans (yq _ _) (by rw [Int.natAbs_natCast]; omega))) ?_;rintro _ I5 hx5 ⟨u5,rfl,hs5⟩;refine qM (((hx3.le).trans hx4.le).trans hx5.le) ?_;refine qO (i := 16) (qB 17 131071) rfl ?_;refine oS sizeOf81 ?_;refine qM (((hx3.le).trans hx4.le).trans hx5.le) ?_;refine qn (by kernel_rfl) ?_;exact meet (b7,u5,I5) (sC rfl (sC rfl (sC rfl (sC rfl sN)))) (fun _ h => h.sort (by repeat constructor)) ⟨hs5,hd1.le (hx3.le.trans (hx4.le.trans hx5.le)),hd2.le (hx3.le.trans (hx4.le.trans hx5.le)),hx2.trans (hx3.trans (hx4.trans hx5 (Nat.le_refl _)) (Nat.le_refl _)) (Nat.le_refl _)⟩
   refine qP (qB 17 36255) rfl ?_;refine qh trivial rfl zeroValue81 rfl (fun b7 => ?_);refine qM (Hp.Le.refl _) ?_;refine qO (i := 5) (qB 17 36287) rfl ?_;refine oQ call109 rfl (qa4 q _ _ hn2 hd2) ?_;refine qM (Hp.Le.refl _) ?_;refine qO (i := 6) (qB 17 36351) rfl ?_;refine oI call107 rfl (qae _ _ p.num (q.den : Int) hn1 hd2 (by omega) (by rw [Int.natAbs_natCast]; omega)) ?_;rintro _ I3 hx3 ⟨u3,rfl,hs3⟩;refine qM (hx3.le) ?_;refine qO (i := 9) (qB 17 36863) rfl ?_;refine oQ call108 rfl (qb0 q _ _ (hn2.le hx3.le) (hd2.le hx3.le)) ?_;refine qM (hx3.le) ?_;refine qO (i := 12) (qB 17 40959) rfl ?_;refine oQ call109 rfl (qa4 p _ _ (hn1.le hx3.le) (hd1.le hx3.le)) ?_;refine qM (hx3.le) ?_;refine qO (i := 13) (qB 17 49151) rfl ?_;refine oI call107 rfl (qae _ _ q.num (p.den : Int) (hn2.le hx3.le) (hd1.le hx3.le) (by omega) (by rw [Int.natAbs_natCast]; omega)) ?_;rintro _ I4 hx4 ⟨u4,rfl,hs4⟩;refine qM ((hx3.le).trans hx4.le) ?_;refine qO (i := 14) (qB 17 65535) rfl ?_;refine oI call106 rfl (qcl _ _ (p.num * (q.den : Int)) (q.num * (p.den : Int)) (hs3.le hx4.le) hs4 (by rw [Int.natAbs_mul]; exact Nat.le_trans (yq _ _) (by rw [Int.natAbs_natCast]; omega)) (by rw [Int.natAbs_mul]; exact Nat.le_trans (yq _ _) (by rw [Int.natAbs_natCast]; omega))) ?_;rintro _ I5 hx5 ⟨u5,rfl,hs5⟩;refine qM (((hx3.le).trans hx4.le).trans hx5.le) ?_;refine qO (i := 16) (qB 17 131071) rfl ?_;refine oS sizeOf81 ?_
   refine qM (((hx3.le).trans hx4.le).trans hx5.le) ?_;refine qn (by kernel_rfl) ?_;exact meet (b7,u5,I5) (sC rfl (sC rfl (sC rfl (sC rfl sN)))) (fun _ h => h.sort (by repeat constructor)) ⟨hs5,hd1.le (hx3.le.trans (hx4.le.trans hx5.le)),hd2.le (hx3.le.trans (hx4.le.trans hx5.le)),hx2.trans (hx3.trans (hx4.trans hx5 (Nat.le_refl _)) (Nat.le_refl _)) (Nat.le_refl _)⟩
  refine qP (qB 17 36251) rfl ?_;refine qh trivial rfl zeroValue81 rfl (fun b7 => ?_);refine qM (Hp.Le.refl _) ?_;refine qO (i := 2) (qB 17 36255) rfl ?_;refine oQ call108 rfl (qb0 p _ _ hn1 hd1) ?_;refine qM (Hp.Le.refl _) ?_;refine qO (i := 5) (qB 17 36287) rfl ?_;refine oQ call109 rfl (qa4 q _ _ hn2 hd2) ?_;refine qM (Hp.Le.refl _) ?_;refine qO (i := 6) (qB 17 36351) rfl ?_;refine oI call107 rfl (qae _ _ p.num (q.den : Int) hn1 hd2 (by omega) (by rw [Int.natAbs_natCast]; omega)) ?_;rintro _ I3 hx3 ⟨u3,rfl,hs3⟩;refine qM (hx3.le) ?_;refine qO (i := 9) (qB 17 36863) rfl ?_;refine oQ call108 rfl (qb0 q _ _ (hn2.le hx3.le) (hd2.le hx3.le)) ?_;refine qM (hx3.le) ?_;refine qO (i := 12) (qB 17 40959) rfl ?_;refine oQ call109 rfl (qa4 p _ _ (hn1.le hx3.le) (hd1.le hx3.le)) ?_;refine qM (hx3.le) ?_;refine qO (i := 13) (qB 17 49151) rfl ?_;refine oI call107 rfl (qae _ _ q.num (p.den : Int) (hn2.le hx3.le) (hd1.le hx3.le) (by omega) (by rw [Int.natAbs_natCast]; omega)) ?_;rintro _ I4 hx4 ⟨u4,rfl,hs4⟩;refine qM ((hx3.le).trans hx4.le) ?_;refine qO (i := 14) (qB 17 65535) rfl ?_;refine oI call106 rfl (qcl _ _ (p.num * (q.den : Int)) (q.num * (p.den : Int)) (hs3.le hx4.le) hs4 (by rw [Int.natAbs_mul]; exact Nat.le_trans (yq _ _) (by rw [Int.natAbs_natCast]; omega)) (by rw [Int.natAbs_mul]; exact Nat.le_trans (yq _ _) (by rw [Int.natAbs_natCast]; omega))) ?_;rintro _ I5 hx5 ⟨u5,rfl,hs5⟩
  refine qM (((hx3.le).trans hx4.le).trans hx5.le) ?_;refine qO (i := 16) (qB 17 131071) rfl ?_;refine oS sizeOf81 ?_;refine qM (((hx3.le).trans hx4.le).trans hx5.le) ?_;refine qn (by kernel_rfl) ?_;exact meet (b7,u5,I5) (sC rfl (sC rfl (sC rfl (sC rfl sN)))) (fun _ h => h.sort (by repeat constructor)) ⟨hs5,hd1.le (hx3.le.trans (hx4.le.trans hx5.le)),hd2.le (hx3.le.trans (hx4.le.trans hx5.le)),hx2.trans (hx3.trans (hx4.trans hx5 (Nat.le_refl _)) (Nat.le_refl _)) (Nat.le_refl _)⟩
 rintro ⟨b7,n7,I6⟩ ⟨hn7,hd61,hd62,hx6⟩
 try dsimp only
 refine cS ?_;refine yb (m := 15) [.box b7 _,.box b5 _,.box b6 _] (by repeat constructor) (by kernel_rfl) rfl ?_;refine qT (i := 0) (qB 15 1) (Hp.Le.refl _) rfl rfl (oF 0 underlying81 sizeOf4 qF) ?_;refine qT (i := 1) (qB 15 3) (Hp.Le.refl _) rfl rfl (oL isAgg4 qF) ?_;refine qT (i := 2) (qB 15 7) (Hp.Le.refl _) rfl rfl (oF 1 underlying81 sizeOf46 qF) ?_;refine qT (i := 3) (qB 15 15) (Hp.Le.refl _) rfl rfl (oL isAgg46 qF) ?_;refine qT (i := 4) (qB 15 31) (Hp.Le.refl _) rfl rfl (oF 0 underlying148 sizeOf146 qF) ?_;refine qT (i := 5) (qB 15 63) (Hp.Le.refl _) rfl rfl (oF 0 underlying146 sizeOf48 qF) ?_;refine qT (i := 6) (qB 15 127) (Hp.Le.refl _) rfl rfl (oF 2 underlying48 sizeOf46 qF) ?_;refine qT (i := 7) (qB 15 255) (Hp.Le.refl _) rfl rfl (oL isAgg46 qF) ?_;refine qT (i := 8) (qB 15 511) (Hp.Le.refl _) rfl rfl (oF 0 underlying148 sizeOf146 qF) ?_;refine qT (i := 9) (qB 15 1023) (Hp.Le.refl _) rfl rfl (oF 0 underlying146 sizeOf48 qF) ?_;refine qT (i := 10) (qB 15 2047) (Hp.Le.refl _) rfl rfl (oF 2 underlying48 sizeOf46 qF) ?_;refine qT (i := 11) (qB 15 4095) (Hp.Le.refl _) rfl rfl (oL isAgg46 qF) ?_;refine qO (i := 12) (qB 15 8191) rfl ?_;refine oI call110 rfl (qfq _ _ _ _ hd61 hd62 (by omega) (by omega)) ?_;rintro u8 I8 hx8 hs8;refine qM (hx8.le) ?_;refine qO (i := 13) (qB 15 16383) rfl ?_;refine oI call45 rfl (qc9 (decide (p.num * (q.den : Int) + q.num * (p.den : Int) < 0)) _ _ _ _ (hn7.le hx8.le) hs8 (qwc hl1 hl4 hl3 hl2) (by rw [qb,qb]; exact Nat.le_trans (yq _ _) (by omega))) ?_
 rintro _ I9 hx9 ⟨u9,u10,rfl,h1,h2⟩;refine qM ((hx8.le).trans hx9.le) ?_;refine qO (i := 14) (qB 15 32767) rfl ?_;refine oS sizeOf48 ?_;refine qM ((hx8.le).trans hx9.le) ?_;refine qn (by kernel_rfl) ?_;refine tC (cT ?_);refine retR rfl (.agg isAgg48 sizeOf48 rfl (by repeat constructor) rfl .nil) ?_
 rw [qb,qb,qb,qb,qfu] at h1 h2
 refine leaf (hx6.trans (hx8.trans hx9 (Nat.le_refl _)) (Nat.le_refl _)) (List.nil_sublist _) ⟨u9,u10,?_,h1,h2⟩
 rw [qb,qb,qb,qb,qfu]; rfl
def okR (e : Prop) [Decidable e] (q : Rat) (I : Hp) (v : Value) : Prop := ∃ s x y X Y,v = .tuple #[.agg #[.bool s,x,y],.int .i64 (if e then 3 else 0)] ∧ Ws I x X ∧ Ws I y Y ∧ (¬ e → s = decide (q.num < 0) ∧ X = natW q.num.natAbs ∧ Y = natW q.den)
theorem okR.ratV {e : Prop} [Decidable e] {q : Rat} {I : Hp} {v : Value} (h : okR e q I v) (he : ¬ e) : ∃ u,v = .tuple #[u,.int .i64 0] ∧ RatV I u q := by
 obtain ⟨s,x,y,X,Y,h1,h2,h3,h4⟩ := h
 obtain ⟨rfl,rfl,rfl⟩ := h4 he
 rw [if_neg he] at h1
 exact ⟨_,h1,x,y,rfl,h2,h3⟩
theorem qwd (n d : Int) (va vb : Value) {I : Hp} (ha : Ws I va (natW n.natAbs)) (hb : Ws I vb (natW d.natAbs)) (hs : (natW n.natAbs).length ≤ 2000000) (hs2 : (natW d.natAbs).length ≤ 2000000) : Fun prog 111 [.agg #[.bool (decide (n < 0)),va],.agg #[.bool (decide (d < 0)),vb]] I [] (fun v I' _ => okR (d = 0) (lowQ (decide (n < 0) != decide (d < 0)) n.natAbs d.natAbs) I' v) := by
 intro w hw
 refine qv _ func111 rfl ntmps111 rfl ?_ hw;refine sR ?_;refine qo trivial rfl rfl rfl (fun b2 => ?_);refine qo trivial rfl rfl rfl (fun b3 => ?_);refine qh trivial rfl zeroValue48 rfl (fun b4 => ?_);refine oV ?_;refine nU ?_;refine oF 1 underlying81 sizeOf46 ?_;refine oL isAgg46 ?_;refine oQ call95 rfl (qfp _ _ hb (by omega)) ?_;refine oV ?_;refine nT ?_;refine cC rfl (fun h1 => ?_) (fun h1 => ?_)
 ·
  have f1 := h1;try simp only [bl] at f1
  have h0 : d = 0 := by rw [qb] at f1; have := qc6.1 (show bitZ d.natAbs = 0 by omega); omega
  refine sR ?_;refine vg trivial rfl (zd) rfl .nil ?_;refine oS sizeOf48 ?_;refine oV ?_;refine nF ?_;refine retR rfl (.agg isAgg48 sizeOf48 rfl (by repeat constructor) rfl (.tmp rfl .nil)) ?_;refine qg ⟨false,.slice none 0 0,.slice none 0 0,[],[],?_,Ws.nil _,Ws.nil _,fun h => absurd h0 h⟩; rw [if_pos h0]; rfl
 have f1 := h1;try simp only [bl] at f1
 have h0 : d ≠ 0 := fun e => by rw [qb,e] at f1; exact f1 rfl
 refine kS ?_;refine oF 0 underlying81 sizeOf4 ?_;refine oL isAgg4 ?_;refine oF 0 underlying81 sizeOf4 ?_;refine oL isAgg4 ?_;refine qfn trivial rfl rfl rfl underlying4 ?_;refine oF 1 underlying81 sizeOf46 ?_;refine oL isAgg46 ?_;refine oF 1 underlying81 sizeOf46 ?_;refine oL isAgg46 ?_;refine oI call45 rfl (qc9 (decide (n < 0) != decide (d < 0)) _ _ _ _ ha hb hs hs2) ?_;rintro _ I1 hx1 ⟨u1,u2,rfl,h1,h2⟩;refine oS sizeOf48 ?_;refine oV ?_;refine nE ?_;refine retR rfl (.agg isAgg48 sizeOf48 rfl (by repeat constructor) rfl (.tmp rfl .nil)) ?_
 rw [qb,qb] at h1 h2
 refine leaf hx1 (List.nil_sublist _) ⟨_,u1,u2,_,_,?_,h1,h2,fun _ => ⟨rfl,rfl,rfl⟩⟩
 rw [qb,qb,if_neg h0]; rfl
theorem qnx (q : Rat) (va vb : Value) {I : Hp} (ha : Ws I va (natW q.num.natAbs)) (hb : Ws I vb (natW q.den)) (hk : Few 100000 q) : Fun prog 78 [.agg #[.bool (decide (q.num < 0)),va,vb]] I [] (fun v I' _ => RatV I' v (-q)) := by
 intro w hw
 refine q9 _ func78 rfl ntmps78 rfl ?_ hw;refine sR ?_;refine qo trivial rfl rfl rfl (fun b1 => ?_);refine qh trivial rfl zeroValue48 rfl (fun b2 => ?_);refine nS ?_;refine oF 0 underlying48 sizeOf4 ?_;refine oL isAgg4 ?_;refine oV ?_;refine oF 1 underlying48 sizeOf46 ?_;refine oL isAgg46 ?_;refine oF 2 underlying48 sizeOf46 ?_;refine oL isAgg46 ?_;refine oI call45 rfl (qc9 (!decide (q.num < 0)) _ _ _ _ ha hb (yj hk.num (by decide)) (yj hk.den (by decide))) ?_;rintro _ I1 hx1 ⟨u1,u2,rfl,h1,h2⟩;refine oS sizeOf48 ?_;refine nE ?_;refine retR rfl (.agg isAgg48 sizeOf48 rfl (by repeat constructor) rfl .nil) ?_
 rw [qb,qb,qnp] at h1 h2
 refine leaf hx1 (List.nil_sublist _) ⟨u1,u2,?_,h1,h2⟩
 rw [qb,qb,qnp]; rfl
theorem qwe (p q : Rat) (va vb vc vd : Value) {I : Hp} (ha : Ws I va (natW p.num.natAbs)) (hb : Ws I vb (natW p.den)) (hc : Ws I vc (natW q.num.natAbs)) (hd : Ws I vd (natW q.den)) (hp : Few 50000 p) (hq : Few 50000 q) : Fun prog 74 [.agg #[.bool (decide (p.num < 0)),va,vb],.agg #[.bool (decide (q.num < 0)),vc,vd]] I [] (fun v I' _ => RatV I' v (p - q)) := by
 intro w hw
 refine qv _ func74 rfl ntmps74 rfl ?_ hw;refine sR ?_;refine qo trivial rfl rfl rfl (fun b2 => ?_);refine qo trivial rfl rfl rfl (fun b3 => ?_);refine qh trivial rfl zeroValue48 rfl (fun b4 => ?_);refine oN (tC (cS ?_));refine yb (m := 5) [.box b2 _,.box b3 _] (by repeat constructor) (by kernel_rfl) rfl ?_;refine qT (i := 0) (qB 5 1) (Hp.Le.refl _) rfl rfl (oA isAgg48 sizeOf48 qF) ?_;refine qT (i := 1) (qB 5 3) (Hp.Le.refl _) rfl rfl (oA isAgg48 sizeOf48 qF) ?_;refine qO (i := 2) (qB 5 7) rfl ?_;refine oI call78 rfl (qnx q _ _ hc hd (hq.le (by decide))) ?_;rintro _ I1 hx1 ⟨u1,u2,rfl,h1,h2⟩;refine qM (hx1.le) ?_;refine qO (i := 3) (qB 5 15) rfl ?_;refine oI call73 rfl (qnw p (-q) _ _ _ _ (ha.le hx1.le) (hb.le hx1.le) h1 h2 hp hq.neg) ?_;rintro _ I2 hx2 ⟨u3,u4,rfl,h3,h4⟩;refine qM ((hx1.le).trans hx2.le) ?_;refine qO (i := 4) (qB 5 31) rfl ?_;refine oS sizeOf48 ?_;refine qM ((hx1.le).trans hx2.le) ?_;refine qn (by kernel_rfl) ?_;refine tC (cT ?_);refine retR rfl (.agg isAgg48 sizeOf48 rfl (by repeat constructor) rfl .nil) ?_
 rw [← Rat.sub_eq_add_neg] at h3 h4
 refine leaf (hx1.trans hx2 (Nat.le_refl _)) (List.nil_sublist _) ⟨u3,u4,?_,h3,h4⟩
 rw [← Rat.sub_eq_add_neg]; rfl
theorem qwf (p q : Rat) (va vb vc vd : Value) {I : Hp} (ha : Ws I va (natW p.num.natAbs)) (hb : Ws I vb (natW p.den)) (hc : Ws I vc (natW q.num.natAbs)) (hd : Ws I vd (natW q.den)) (hp : Few 50000 p) (hq : Few 50000 q) : Fun prog 75 [.agg #[.bool (decide (p.num < 0)),va,vb],.agg #[.bool (decide (q.num < 0)),vc,vd]] I [] (fun v I' _ => RatV I' v (p * q)) := by
 have hl1 := yj hp.num (Nat.le_refl _)
 have hl2 := yj hp.den (Nat.le_refl _)
 have hl3 := yj hq.num (Nat.le_refl _)
 have hl4 := yj hq.den (Nat.le_refl _)
 intro w hw
 refine qv _ func75 rfl ntmps75 rfl ?_ hw;refine sR ?_;refine qo trivial rfl rfl rfl (fun b2 => ?_);refine qo trivial rfl rfl rfl (fun b3 => ?_);refine qh trivial rfl zeroValue48 rfl (fun b4 => ?_);refine oN (tC (cS ?_));refine yb (m := 17) [.box b2 _,.box b3 _] (by repeat constructor) (by kernel_rfl) rfl ?_;refine qT (i := 0) (qB 17 1) (Hp.Le.refl _) rfl rfl (oF 0 underlying48 sizeOf4 qF) ?_;refine qT (i := 1) (qB 17 3) (Hp.Le.refl _) rfl rfl (oL isAgg4 qF) ?_;refine qT (i := 2) (qB 17 7) (Hp.Le.refl _) rfl rfl (oF 0 underlying48 sizeOf4 qF) ?_;refine qT (i := 3) (qB 17 15) (Hp.Le.refl _) rfl rfl (oL isAgg4 qF) ?_;refine qT (i := 4) (qB 17 31) (Hp.Le.refl _) rfl rfl (qfn trivial rfl rfl rfl underlying4 qF) ?_;refine qT (i := 5) (qB 17 63) (Hp.Le.refl _) rfl rfl (oF 1 underlying48 sizeOf46 qF) ?_;refine qT (i := 6) (qB 17 127) (Hp.Le.refl _) rfl rfl (oL isAgg46 qF) ?_;refine qT (i := 7) (qB 17 255) (Hp.Le.refl _) rfl rfl (oF 1 underlying48 sizeOf46 qF) ?_;refine qT (i := 8) (qB 17 511) (Hp.Le.refl _) rfl rfl (oL isAgg46 qF) ?_;refine qT (i := 10) (qB 17 1535) (Hp.Le.refl _) rfl rfl (oF 2 underlying48 sizeOf46 qF) ?_;refine qT (i := 11) (qB 17 3583) (Hp.Le.refl _) rfl rfl (oL isAgg46 qF) ?_;refine qT (i := 12) (qB 17 7679) (Hp.Le.refl _) rfl rfl (oF 2 underlying48 sizeOf46 qF) ?_;refine qT (i := 13) (qB 17 15871) (Hp.Le.refl _) rfl rfl (oL isAgg46 qF) ?_
 refine qO (i := 9) (qB 17 16383) rfl ?_;refine oI call110 rfl (qfq _ _ _ _ ha hc (by omega) (by omega)) ?_;rintro u1 I1 hx1 hs1;refine qM (hx1.le) ?_;refine qO (i := 14) (qB 17 32767) rfl ?_;refine oI call110 rfl (qfq _ _ _ _ (hb.le hx1.le) (hd.le hx1.le) (by omega) (by omega)) ?_;rintro u2 I2 hx2 hs2;refine qM ((hx1.le).trans hx2.le) ?_;refine qO (i := 15) (qB 17 65535) rfl ?_;refine oI call45 rfl (qc9 (decide (p.num < 0) != decide (q.num < 0)) _ _ _ _ (hs1.le hx2.le) hs2 (by rw [qb,qb]; exact Nat.le_trans (yq _ _) (by omega)) (by rw [qb,qb]; exact Nat.le_trans (yq _ _) (by omega))) ?_;rintro _ I3 hx3 ⟨u3,u4,rfl,h1,h2⟩;refine qM (((hx1.le).trans hx2.le).trans hx3.le) ?_;refine qO (i := 16) (qB 17 131071) rfl ?_;refine oS sizeOf48 ?_;refine qM (((hx1.le).trans hx2.le).trans hx3.le) ?_;refine qn (by kernel_rfl) ?_;refine tC (cT ?_);refine retR rfl (.agg isAgg48 sizeOf48 rfl (by repeat constructor) rfl .nil) ?_
 rw [qb,qb,qb,qb,qb,qb,qft] at h1 h2
 refine leaf (hx1.trans (hx2.trans hx3 (Nat.le_refl _)) (Nat.le_refl _)) (List.nil_sublist _) ⟨u3,u4,?_,h1,h2⟩
 rw [qb,qb,qb,qb,qb,qb,qft]; rfl
end Go.Proofs.YtoincnplajnpnaaGreat
namespace Go.Tw
open Go
section
variable {P : Program} {ops : Array Oper} {rest : List Oper} {n : Nat} {D : List Deferred} {E : Env} {S : World → Prop} {Q : Exit → Act → World → Prop} {d : Nat} {ty : TypeId} {pos : String} {aft : Array Edge} {g : Option (Nat × Bool)}
theorem qwg {qm : Bool} {x y : Operand} {t t2 : TypeId} {kd : IntKind} {p q : Int} (hg : qi ops E g) (hd : Nat.blt d n = true) (hx : ev E x = some (.int kd p)) (hy : ev E y = some (.int kd q)) (h : q ≠ 0)
   (k : TL qm P ops Q rest n D ((d,.int kd (Int.tmod p q)) :: E) S) : TL qm P ops Q (⟨some d,.binOp .rem t x y t2,ty,pos,aft,g⟩ :: rest) n D E S :=
 o_rd hg hd (v := .int kd (Int.tmod p q)) (fun a w ha hw d pos aft g => ⟨w, by
   have h0 : ¬ q = 0 := h
   simp only [execOp,ha.ev hx,ha.ev hy,Sem.run_bind,qb9,Result.andThen_ok]
   simp [binOp,Op.intDiv,h0],rfl⟩) k
end
end Go.Tw
namespace Go.Proofs.YtoincnplajnpnaaGreat
open Go Go.Tw
theorem qg9 (q : Rat) : q = 0 ↔ q.num = 0 := Rat.num_eq_zero.symm
theorem qjo (p q : Rat) : (p.den : Int) * q.num = 0 ↔ q = 0 := by
 have := p.den_pos
 rw [qg9,Int.mul_eq_zero]
 omega
theorem qny (p q : Rat) (va vb vc vd : Value) {I : Hp} (ha : Ws I va (natW p.num.natAbs)) (hb : Ws I vb (natW p.den)) (hc : Ws I vc (natW q.num.natAbs)) (hd : Ws I vd (natW q.den)) (hp : Few 50000 p) (hq : Few 50000 q) : Fun prog 77 [.agg #[.bool (decide (p.num < 0)),va,vb],.agg #[.bool (decide (q.num < 0)),vc,vd]] I [] (fun v I' _ => okR (q = 0) (p / q) I' v) := by
 have hl1 := yj hp.num (Nat.le_refl _)
 have hl2 := yj hp.den (Nat.le_refl _)
 have hl3 := yj hq.num (Nat.le_refl _)
 have hl4 := yj hq.den (Nat.le_refl _)
 intro w hw
 refine qv _ func77 rfl ntmps77 rfl ?_ hw;refine sR ?_;refine qo trivial rfl rfl rfl (fun b2 => ?_);refine qo trivial rfl rfl rfl (fun b3 => ?_);refine qh trivial rfl zeroValue48 rfl (fun b4 => ?_);refine oV ?_;refine nT ?_;refine jk (ι := Nat × Nat × Value × Value × Value × Value × Hp) [4] (.cons rfl .nil) (fun z E0 => (6,.pointer (some ⟨z.1,0,none⟩)) :: (7,.pointer (some ⟨z.2.1,0,none⟩)) :: E0) (fun z => St w [] z.2.2.2.2.2.2 [.box b4 (.cells [.bool false,.slice none 0 0,.slice none 0 0].toArray 48 (0,0)),.box z.1 (.cells [.bool (decide (p.num < 0)),z.2.2.1,z.2.2.2.1].toArray 148 (0,0)),.box z.2.1 (.cells [.bool (decide (q.num < 0)),z.2.2.2.2.1,z.2.2.2.2.2.1].toArray 148 (0,0))]) (fun z => Ws z.2.2.2.2.2.2 z.2.2.1 (natW p.num.natAbs) ∧ Ws z.2.2.2.2.2.2 z.2.2.2.1 (natW p.den) ∧ Ws z.2.2.2.2.2.2 z.2.2.2.2.1 (natW q.num.natAbs) ∧ Ws z.2.2.2.2.2.2 z.2.2.2.2.2.1 (natW q.den) ∧ Ext w.heap.size I z.2.2.2.2.2.2) ?_ ?_
 ·
  refine yb (m := 8) [.box b2 _,.box b3 _] (by repeat constructor) (by kernel_rfl) rfl ?_;refine qT (i := 0) (qB 8 1) (Hp.Le.refl _) rfl rfl (oA isAgg48 sizeOf48 qF) ?_;refine qT (i := 2) (qB 8 5) (Hp.Le.refl _) rfl rfl (oA isAgg48 sizeOf48 qF) ?_;refine h_go [1,4,5] (by kernel_rfl) rfl (TWHs.cons ?_ (TWHs.cons ?_ (TWHs.cons ?_ TWHs.nil)))
  ·
   refine qP (qB 8 7) rfl ?_;refine oI call105 rfl (yl p _ _ ha hb (hp.le (by decide))) ?_;rintro _ I1 hx1 ⟨n1,d1,rfl,hn1,hd1⟩;refine qM (hx1.le) ?_;refine h_go [3,4,5] (by kernel_rfl) rfl (TWHs.cons ?_ (TWHs.cons ?_ (TWHs.cons ?_ TWHs.nil)))
   ·
    refine qP (qB 8 15) rfl ?_;refine oI call105 rfl (yl q _ _ (hc.le hx1.le) (hd.le hx1.le) (hq.le (by decide))) ?_;rintro _ I2 hx2 ⟨n2,d2,rfl,hn2,hd2⟩;refine qM ((hx1.le).trans hx2.le) ?_;refine h_go [4,5] (by kernel_rfl) rfl (TWHs.cons ?_ (TWHs.cons ?_ TWHs.nil))
    ·
     refine qP (qB 8 31) rfl ?_;refine qh trivial rfl zeroValue148 rfl (fun b6 => ?_);refine qM ((hx1.le).trans hx2.le) ?_;refine qO (i := 5) (qB 8 63) rfl ?_;refine qh trivial rfl zeroValue148 rfl (fun b7 => ?_);refine qM ((hx1.le).trans hx2.le) ?_;refine qO (i := 6) (qB 8 127) rfl ?_;refine oS sizeOf148 ?_;refine qM ((hx1.le).trans hx2.le) ?_;refine qO (i := 7) (qB 8 255) rfl ?_;refine oS sizeOf148 ?_;refine qM ((hx1.le).trans hx2.le) ?_;refine qn (by kernel_rfl) ?_;exact meet (b6,b7,n1,d1,n2,d2,I2) (sC rfl (sC rfl (sC rfl sN))) (fun _ h => h.sort (by repeat constructor)) ⟨hn1.le hx2.le,hd1.le hx2.le,hn2,hd2,hx1.trans hx2 (Nat.le_refl _)⟩
    refine qP (qB 8 47) rfl ?_;refine qh trivial rfl zeroValue148 rfl (fun b7 => ?_);refine qM ((hx1.le).trans hx2.le) ?_;refine qO (i := 4) (qB 8 63) rfl ?_;refine qh trivial rfl zeroValue148 rfl (fun b6 => ?_);refine qM ((hx1.le).trans hx2.le) ?_;refine qO (i := 6) (qB 8 127) rfl ?_;refine oS sizeOf148 ?_;refine qM ((hx1.le).trans hx2.le) ?_;refine qO (i := 7) (qB 8 255) rfl ?_;refine oS sizeOf148 ?_;refine qM ((hx1.le).trans hx2.le) ?_;refine qn (by kernel_rfl) ?_;exact meet (b6,b7,n1,d1,n2,d2,I2) (sC rfl (sC rfl (sC rfl sN))) (fun _ h => h.sort (by repeat constructor)) ⟨hn1.le hx2.le,hd1.le hx2.le,hn2,hd2,hx1.trans hx2 (Nat.le_refl _)⟩
   ·
    refine qP (qB 8 23) rfl ?_;refine qh trivial rfl zeroValue148 rfl (fun b6 => ?_);refine qM (hx1.le) ?_;refine h_go [3,5] (by kernel_rfl) rfl (TWHs.cons ?_ (TWHs.cons ?_ TWHs.nil))
    ·
     refine qP (qB 8 31) rfl ?_;refine oI call105 rfl (yl q _ _ (hc.le hx1.le) (hd.le hx1.le) (hq.le (by decide))) ?_;rintro _ I2 hx2 ⟨n2,d2,rfl,hn2,hd2⟩;refine qM ((hx1.le).trans hx2.le) ?_;refine qO (i := 5) (qB 8 63) rfl ?_;refine qh trivial rfl zeroValue148 rfl (fun b7 => ?_);refine qM ((hx1.le).trans hx2.le) ?_;refine qO (i := 6) (qB 8 127) rfl ?_;refine oS sizeOf148 ?_;refine qM ((hx1.le).trans hx2.le) ?_;refine qO (i := 7) (qB 8 255) rfl ?_;refine oS sizeOf148 ?_;refine qM ((hx1.le).trans hx2.le) ?_;refine qn (by kernel_rfl) ?_;exact meet (b6,b7,n1,d1,n2,d2,I2) (sC rfl (sC rfl (sC rfl sN))) (fun _ h => h.sort (by repeat constructor)) ⟨hn1.le hx2.le,hd1.le hx2.le,hn2,hd2,hx1.trans hx2 (Nat.le_refl _)⟩
    refine qP (qB 8 55) rfl ?_;refine qh trivial rfl zeroValue148 rfl (fun b7 => ?_);refine qM (hx1.le) ?_;refine qO (i := 3) (qB 8 63) rfl ?_;refine oI call105 rfl (yl q _ _ (hc.le hx1.le) (hd.le hx1.le) (hq.le (by decide))) ?_;rintro _ I2 hx2 ⟨n2,d2,rfl,hn2,hd2⟩;refine qM ((hx1.le).trans hx2.le) ?_;refine qO (i := 6) (qB 8 127) rfl ?_;refine oS sizeOf148 ?_;refine qM ((hx1.le).trans hx2.le) ?_;refine qO (i := 7) (qB 8 255) rfl ?_;refine oS sizeOf148 ?_;refine qM ((hx1.le).trans hx2.le) ?_;refine qn (by kernel_rfl) ?_;exact meet (b6,b7,n1,d1,n2,d2,I2) (sC rfl (sC rfl (sC rfl sN))) (fun _ h => h.sort (by repeat constructor)) ⟨hn1.le hx2.le,hd1.le hx2.le,hn2,hd2,hx1.trans hx2 (Nat.le_refl _)⟩
   refine qP (qB 8 39) rfl ?_;refine qh trivial rfl zeroValue148 rfl (fun b7 => ?_);refine qM (hx1.le) ?_;refine h_go [3,4] (by kernel_rfl) rfl (TWHs.cons ?_ (TWHs.cons ?_ TWHs.nil))
   ·
    refine qP (qB 8 47) rfl ?_;refine oI call105 rfl (yl q _ _ (hc.le hx1.le) (hd.le hx1.le) (hq.le (by decide))) ?_;rintro _ I2 hx2 ⟨n2,d2,rfl,hn2,hd2⟩;refine qM ((hx1.le).trans hx2.le) ?_;refine qO (i := 4) (qB 8 63) rfl ?_;refine qh trivial rfl zeroValue148 rfl (fun b6 => ?_);refine qM ((hx1.le).trans hx2.le) ?_;refine qO (i := 6) (qB 8 127) rfl ?_;refine oS sizeOf148 ?_;refine qM ((hx1.le).trans hx2.le) ?_;refine qO (i := 7) (qB 8 255) rfl ?_;refine oS sizeOf148 ?_;refine qM ((hx1.le).trans hx2.le) ?_;refine qn (by kernel_rfl) ?_;exact meet (b6,b7,n1,d1,n2,d2,I2) (sC rfl (sC rfl (sC rfl sN))) (fun _ h => h.sort (by repeat constructor)) ⟨hn1.le hx2.le,hd1.le hx2.le,hn2,hd2,hx1.trans hx2 (Nat.le_refl _)⟩
   refine qP (qB 8 55) rfl ?_;refine qh trivial rfl zeroValue148 rfl (fun b6 => ?_);refine qM (hx1.le) ?_;refine qO (i := 3) (qB 8 63) rfl ?_;refine oI call105 rfl (yl q _ _ (hc.le hx1.le) (hd.le hx1.le) (hq.le (by decide))) ?_;rintro _ I2 hx2 ⟨n2,d2,rfl,hn2,hd2⟩;refine qM ((hx1.le).trans hx2.le) ?_;refine qO (i := 6) (qB 8 127) rfl ?_;refine oS sizeOf148 ?_;refine qM ((hx1.le).trans hx2.le) ?_;refine qO (i := 7) (qB 8 255) rfl ?_;refine oS sizeOf148 ?_;refine qM ((hx1.le).trans hx2.le) ?_;refine qn (by kernel_rfl) ?_;exact meet (b6,b7,n1,d1,n2,d2,I2) (sC rfl (sC rfl (sC rfl sN))) (fun _ h => h.sort (by repeat constructor)) ⟨hn1.le hx2.le,hd1.le hx2.le,hn2,hd2,hx1.trans hx2 (Nat.le_refl _)⟩
  ·
   refine qP (qB 8 21) rfl ?_;refine qh trivial rfl zeroValue148 rfl (fun b6 => ?_);refine qM (Hp.Le.refl _) ?_;refine h_go [1,5] (by kernel_rfl) rfl (TWHs.cons ?_ (TWHs.cons ?_ TWHs.nil))
   ·
    refine qP (qB 8 23) rfl ?_;refine oI call105 rfl (yl p _ _ ha hb (hp.le (by decide))) ?_;rintro _ I1 hx1 ⟨n1,d1,rfl,hn1,hd1⟩;refine qM (hx1.le) ?_;refine h_go [3,5] (by kernel_rfl) rfl (TWHs.cons ?_ (TWHs.cons ?_ TWHs.nil))
    ·
     refine qP (qB 8 31) rfl ?_;refine oI call105 rfl (yl q _ _ (hc.le hx1.le) (hd.le hx1.le) (hq.le (by decide))) ?_;rintro _ I2 hx2 ⟨n2,d2,rfl,hn2,hd2⟩;refine qM ((hx1.le).trans hx2.le) ?_;refine qO (i := 5) (qB 8 63) rfl ?_;refine qh trivial rfl zeroValue148 rfl (fun b7 => ?_);refine qM ((hx1.le).trans hx2.le) ?_;refine qO (i := 6) (qB 8 127) rfl ?_;refine oS sizeOf148 ?_;refine qM ((hx1.le).trans hx2.le) ?_;refine qO (i := 7) (qB 8 255) rfl ?_;refine oS sizeOf148 ?_;refine qM ((hx1.le).trans hx2.le) ?_;refine qn (by kernel_rfl) ?_;exact meet (b6,b7,n1,d1,n2,d2,I2) (sC rfl (sC rfl (sC rfl sN))) (fun _ h => h.sort (by repeat constructor)) ⟨hn1.le hx2.le,hd1.le hx2.le,hn2,hd2,hx1.trans hx2 (Nat.le_refl _)⟩
    refine qP (qB 8 55) rfl ?_;refine qh trivial rfl zeroValue148 rfl (fun b7 => ?_);refine qM (hx1.le) ?_;refine qO (i := 3) (qB 8 63) rfl ?_;refine oI call105 rfl (yl q _ _ (hc.le hx1.le) (hd.le hx1.le) (hq.le (by decide))) ?_;rintro _ I2 hx2 ⟨n2,d2,rfl,hn2,hd2⟩;refine qM ((hx1.le).trans hx2.le) ?_;refine qO (i := 6) (qB 8 127) rfl ?_;refine oS sizeOf148 ?_;refine qM ((hx1.le).trans hx2.le) ?_;refine qO (i := 7) (qB 8 255) rfl ?_;refine oS sizeOf148 ?_;refine qM ((hx1.le).trans hx2.le) ?_;refine qn (by kernel_rfl) ?_;exact meet (b6,b7,n1,d1,n2,d2,I2) (sC rfl (sC rfl (sC rfl sN))) (fun _ h => h.sort (by repeat constructor)) ⟨hn1.le hx2.le,hd1.le hx2.le,hn2,hd2,hx1.trans hx2 (Nat.le_refl _)⟩
   refine qP (qB 8 53) rfl ?_;refine qh trivial rfl zeroValue148 rfl (fun b7 => ?_);refine qM (Hp.Le.refl _) ?_;refine qO (i := 1) (qB 8 55) rfl ?_;refine oI call105 rfl (yl p _ _ ha hb (hp.le (by decide))) ?_;rintro _ I1 hx1 ⟨n1,d1,rfl,hn1,hd1⟩;refine qM (hx1.le) ?_;refine qO (i := 3) (qB 8 63) rfl ?_;refine oI call105 rfl (yl q _ _ (hc.le hx1.le) (hd.le hx1.le) (hq.le (by decide))) ?_;rintro _ I2 hx2 ⟨n2,d2,rfl,hn2,hd2⟩;refine qM ((hx1.le).trans hx2.le) ?_;refine qO (i := 6) (qB 8 127) rfl ?_;refine oS sizeOf148 ?_;refine qM ((hx1.le).trans hx2.le) ?_;refine qO (i := 7) (qB 8 255) rfl ?_;refine oS sizeOf148 ?_;refine qM ((hx1.le).trans hx2.le) ?_;refine qn (by kernel_rfl) ?_;exact meet (b6,b7,n1,d1,n2,d2,I2) (sC rfl (sC rfl (sC rfl sN))) (fun _ h => h.sort (by repeat constructor)) ⟨hn1.le hx2.le,hd1.le hx2.le,hn2,hd2,hx1.trans hx2 (Nat.le_refl _)⟩
  refine qP (qB 8 37) rfl ?_;refine qh trivial rfl zeroValue148 rfl (fun b7 => ?_);refine qM (Hp.Le.refl _) ?_;refine h_go [1,4] (by kernel_rfl) rfl (TWHs.cons ?_ (TWHs.cons ?_ TWHs.nil))
  ·
   refine qP (qB 8 39) rfl ?_;refine oI call105 rfl (yl p _ _ ha hb (hp.le (by decide))) ?_;rintro _ I1 hx1 ⟨n1,d1,rfl,hn1,hd1⟩;refine qM (hx1.le) ?_;refine h_go [3,4] (by kernel_rfl) rfl (TWHs.cons ?_ (TWHs.cons ?_ TWHs.nil))
   ·
    refine qP (qB 8 47) rfl ?_;refine oI call105 rfl (yl q _ _ (hc.le hx1.le) (hd.le hx1.le) (hq.le (by decide))) ?_;rintro _ I2 hx2 ⟨n2,d2,rfl,hn2,hd2⟩;refine qM ((hx1.le).trans hx2.le) ?_;refine qO (i := 4) (qB 8 63) rfl ?_;refine qh trivial rfl zeroValue148 rfl (fun b6 => ?_);refine qM ((hx1.le).trans hx2.le) ?_;refine qO (i := 6) (qB 8 127) rfl ?_;refine oS sizeOf148 ?_;refine qM ((hx1.le).trans hx2.le) ?_;refine qO (i := 7) (qB 8 255) rfl ?_;refine oS sizeOf148 ?_;refine qM ((hx1.le).trans hx2.le) ?_;refine qn (by kernel_rfl) ?_;exact meet (b6,b7,n1,d1,n2,d2,I2) (sC rfl (sC rfl (sC rfl sN))) (fun _ h => h.sort (by repeat constructor)) ⟨hn1.le hx2.le,hd1.le hx2.le,hn2,hd2,hx1.trans hx2 (Nat.le_refl _)⟩
   refine qP (qB 8 55) rfl ?_;refine qh trivial rfl zeroValue148 rfl (fun b6 => ?_);refine qM (hx1.le) ?_;refine qO (i := 3) (qB 8 63) rfl ?_;refine oI call105 rfl (yl q _ _ (hc.le hx1.le) (hd.le hx1.le) (hq.le (by decide))) ?_;rintro _ I2 hx2 ⟨n2,d2,rfl,hn2,hd2⟩;refine qM ((hx1.le).trans hx2.le) ?_;refine qO (i := 6) (qB 8 127) rfl ?_;refine oS sizeOf148 ?_;refine qM ((hx1.le).trans hx2.le) ?_;refine qO (i := 7) (qB 8 255) rfl ?_;refine oS sizeOf148 ?_;refine qM ((hx1.le).trans hx2.le) ?_;refine qn (by kernel_rfl) ?_;exact meet (b6,b7,n1,d1,n2,d2,I2) (sC rfl (sC rfl (sC rfl sN))) (fun _ h => h.sort (by repeat constructor)) ⟨hn1.le hx2.le,hd1.le hx2.le,hn2,hd2,hx1.trans hx2 (Nat.le_refl _)⟩
  refine qP (qB 8 53) rfl ?_;refine qh trivial rfl zeroValue148 rfl (fun b6 => ?_);refine qM (Hp.Le.refl _) ?_;refine qO (i := 1) (qB 8 55) rfl ?_;refine oI call105 rfl (yl p _ _ ha hb (hp.le (by decide))) ?_;rintro _ I1 hx1 ⟨n1,d1,rfl,hn1,hd1⟩;refine qM (hx1.le) ?_;refine qO (i := 3) (qB 8 63) rfl ?_;refine oI call105 rfl (yl q _ _ (hc.le hx1.le) (hd.le hx1.le) (hq.le (by decide))) ?_;rintro _ I2 hx2 ⟨n2,d2,rfl,hn2,hd2⟩;refine qM ((hx1.le).trans hx2.le) ?_;refine qO (i := 6) (qB 8 127) rfl ?_;refine oS sizeOf148 ?_;refine qM ((hx1.le).trans hx2.le) ?_;refine qO (i := 7) (qB 8 255) rfl ?_;refine oS sizeOf148 ?_;refine qM ((hx1.le).trans hx2.le) ?_;refine qn (by kernel_rfl) ?_;exact meet (b6,b7,n1,d1,n2,d2,I2) (sC rfl (sC rfl (sC rfl sN))) (fun _ h => h.sort (by repeat constructor)) ⟨hn1.le hx2.le,hd1.le hx2.le,hn2,hd2,hx1.trans hx2 (Nat.le_refl _)⟩
 rintro ⟨b6,b7,n1,d1,n2,d2,I2⟩ ⟨hn1,hd1,hn2,hd2,hx2⟩
 try dsimp only
 refine cS ?_;refine yb (m := 19) [.box b6 _,.box b7 _] (by repeat constructor) (by kernel_rfl) rfl ?_;refine qT (i := 0) (qB 19 1) (Hp.Le.refl _) rfl rfl (oF 0 underlying148 sizeOf146 qF) ?_;refine qT (i := 1) (qB 19 3) (Hp.Le.refl _) rfl rfl (oA isAgg146 sizeOf146 qF) ?_;refine qT (i := 3) (qB 19 11) (Hp.Le.refl _) rfl rfl (oF 0 underlying148 sizeOf146 qF) ?_;refine qT (i := 4) (qB 19 27) (Hp.Le.refl _) rfl rfl (oA isAgg146 sizeOf146 qF) ?_;refine qT (i := 7) (qB 19 155) (Hp.Le.refl _) rfl rfl (oF 0 underlying148 sizeOf146 qF) ?_;refine qT (i := 8) (qB 19 411) (Hp.Le.refl _) rfl rfl (oA isAgg146 sizeOf146 qF) ?_;refine qT (i := 10) (qB 19 1435) (Hp.Le.refl _) rfl rfl (oF 0 underlying148 sizeOf146 qF) ?_;refine qT (i := 11) (qB 19 3483) (Hp.Le.refl _) rfl rfl (oA isAgg146 sizeOf146 qF) ?_;refine qO (i := 2) (qB 19 3487) rfl ?_;refine oQ call108 rfl (qb0 p _ _ hn1 hd1) ?_;refine qM (Hp.Le.refl _) ?_;refine qO (i := 5) (qB 19 3519) rfl ?_;refine oQ call109 rfl (qa4 q _ _ hn2 hd2) ?_;refine qM (Hp.Le.refl _) ?_;refine qO (i := 6) (qB 19 3583) rfl ?_;refine oI call107 rfl (qae _ _ p.num (q.den : Int) hn1 hd2 (by omega) (by rw [Int.natAbs_natCast]; omega)) ?_;rintro _ I3 hx3 ⟨u3,rfl,hs3⟩;refine qM (hx3.le) ?_;refine qO (i := 9) (qB 19 4095) rfl ?_;refine oQ call109 rfl (qa4 p _ _ (hn1.le hx3.le) (hd1.le hx3.le)) ?_;refine qM (hx3.le) ?_;refine qO (i := 12) (qB 19 8191) rfl ?_
 refine oQ call108 rfl (qb0 q _ _ (hn2.le hx3.le) (hd2.le hx3.le)) ?_;refine qM (hx3.le) ?_;refine qO (i := 13) (qB 19 16383) rfl ?_;refine oI call107 rfl (qae _ _ (p.den : Int) q.num (hd1.le hx3.le) (hn2.le hx3.le) (by rw [Int.natAbs_natCast]; omega) (by omega)) ?_;rintro _ I4 hx4 ⟨u4,rfl,hs4⟩;refine qM ((hx3.le).trans hx4.le) ?_;refine qO (i := 14) (qB 19 32767) rfl ?_;refine oI call111 rfl (qwd (p.num * (q.den : Int)) ((p.den : Int) * q.num) _ _ (hs3.le hx4.le) hs4 (by rw [Int.natAbs_mul]; exact Nat.le_trans (yq _ _) (by rw [Int.natAbs_natCast]; omega)) (by rw [Int.natAbs_mul]; exact Nat.le_trans (yq _ _) (by rw [Int.natAbs_natCast]; omega))) ?_;rintro _ I5 hx5 ⟨s5,u5,u6,X5,X6,rfl,hs5,hs6,hs7⟩;refine qM (((hx3.le).trans hx4.le).trans hx5.le) ?_;refine qT (i := 15) (qB 19 65535) (((hx3.le).trans hx4.le).trans hx5.le) rfl rfl (oV qF) ?_;refine qT (i := 16) (qB 19 131071) (((hx3.le).trans hx4.le).trans hx5.le) rfl rfl (oV qF) ?_;refine qO (i := 17) (qB 19 262143) rfl ?_;refine oS sizeOf48 ?_;refine qM (((hx3.le).trans hx4.le).trans hx5.le) ?_;refine qT (i := 18) (qB 19 524287) (((hx3.le).trans hx4.le).trans hx5.le) rfl rfl (oV qF) ?_;refine qn (by kernel_rfl) ?_;refine tC (cT ?_);refine retR rfl (.agg isAgg48 sizeOf48 rfl (by repeat constructor) rfl (.tmp rfl .nil)) ?_;refine leaf (hx2.trans (hx3.trans (hx4.trans hx5 (Nat.le_refl _)) (Nat.le_refl _)) (Nat.le_refl _)) (List.nil_sublist _) ⟨s5,u5,u6,X5,X6,?_,hs5,hs6,fun h => ?_⟩
 · by_cases h : q = 0
   · rw [if_pos h,if_pos ((qjo p q).2 h)]; rfl
   · rw [if_neg h,if_neg (fun e => h ((qjo p q).1 e))]; rfl
 · have h8 := hs7 (fun e => h ((qjo p q).1 e))
   rw [qnq,qv7] at h8
   exact h8
theorem qha (n : Int) : (Int.tmod n 2 != 0) = decide (n.natAbs % 2 ≠ 0) := by
 rw [Bool.eq_iff_iff,decide_eq_true_eq,bne_iff_ne]
 rcases (by omega : 0 ≤ n ∨ n < 0) with h | h
 · rw [Int.tmod_eq_emod_of_nonneg h]; omega
 · have e : Int.tmod n 2 = -((-n) % 2) := by
     have := Int.neg_tmod (-n) 2
     rw [Int.neg_neg] at this
     rw [this,Int.tmod_eq_emod_of_nonneg (by omega)]
   rw [e]; omega
theorem qnz {a k m : Nat} (h : a < 4294967296 ^ k) : (natW (a ^ m)).length ≤ k * m + 1 := by
 refine zt ?_
 have h2 : a ^ m ≤ (4294967296 ^ k) ^ m := Nat.pow_le_pow_left (Nat.le_of_lt h) m
 rw [← Nat.pow_mul] at h2
 exact Nat.lt_of_le_of_lt h2 (Nat.pow_lt_pow_right (by decide) (Nat.lt_succ_self _))
theorem qn0 (q : Rat) (n : Int) (va vb : Value) {I : Hp} {c : Nat} (ha : Ws I va (natW q.num.natAbs)) (hb : Ws I vb (natW q.den)) (hc : Few c q) (hc1 : c ≤ 4096) (hn : -64 ≤ n ∧ n ≤ 64) (hcn : c * n.natAbs ≤ 4096) : Fun prog 79 [.agg #[.bool (decide (q.num < 0)),va,vb],.int .i64 n] I [] (fun v I' _ => okR (n < 0 ∧ q = 0) (q ^ n) I' v) := by
 have hl1 := yj hc.num (Nat.le_refl _)
 have hl2 := yj hc.den (Nat.le_refl _)
 have hm1 : (natW q.num.natAbs).length * n.natAbs ≤ 4096 := Nat.le_trans (Nat.mul_le_mul_right _ hl1) hcn
 have hm2 : (natW q.den).length * n.natAbs ≤ 4096 := Nat.le_trans (Nat.mul_le_mul_right _ hl2) hcn
 have hp1 := qnz (m := n.natAbs) hc.num
 have hp2 := qnz (m := n.natAbs) hc.den
 have hmax : max n (IntKind.i64.wrap (0 - n)) = ((n.natAbs : Nat) : Int) := by rw [IntWalk.i64_in _ (by omega)]; omega
 intro w hw
 refine qv _ func79 rfl ntmps79 rfl ?_ hw;refine sR ?_;refine qo trivial rfl rfl rfl (fun b2 => ?_);refine qh trivial rfl zeroValue48 rfl (fun b4 => ?_);refine oV ?_;refine nS ?_;refine oA isAgg48 sizeOf48 ?_;refine oI call105 rfl (yl q _ _ ha hb (hc.le (by omega))) ?_;rintro _ I1 hx1 ⟨n1,d1,rfl,hn1,hd1⟩;refine qh trivial rfl zeroValue148 rfl (fun b6 => ?_);refine oS sizeOf148 ?_;refine oN (tC (cS (cB (sR ?_))));iterate 2 refine oV ?_
 refine' oZ (fun hb17 => ?_) ?_;rotate_left
 ·
  iterate 2 refine gV hb17 ?_
  refine oN ?_;exact qa rfl
 refine oV ?_;refine nT ?_;refine cC rfl (fun h1 => ?_) (fun h1 => ?_)
 ·
  have f1 := h1;try simp only [bl] at f1
  exfalso; omega
 have f1 := h1;try simp only [bl] at f1
 refine sR ?_;iterate 2 refine oV ?_
 refine' oY (fun hb25 => ?_) ?_;rotate_left
 ·
  have fb25 := hb25
  try simp only [bl] at fb25
  refine gF hb25 0 underlying148 sizeOf146 ?_;refine gF hb25 0 underlying146 sizeOf48 ?_;refine gF hb25 1 underlying48 sizeOf46 ?_;refine gL hb25 isAgg46 ?_;refine vj (wS rfl rfl hb25) rfl underlying46 rfl (hn1) ?_;refine gV hb25 ?_;refine oN ?_;exact qa rfl
 refine oV ?_;refine nT ?_;refine cC rfl (fun h2 => ?_) (fun h2 => ?_)
 ·
  have f2 := h2;try simp only [bl] at f2
  have h0 : n < 0 ∧ q = 0 := ⟨f2.1,by rw [qg9]; have := jh.1 (show (natW q.num.natAbs).length = 0 by omega); omega⟩
  refine sR ?_;refine vg trivial rfl (zd) rfl .nil ?_;refine oS sizeOf48 ?_;refine oV ?_;refine oN (tC (cT (qd (tR ?_))));refine retR rfl (.agg isAgg48 sizeOf48 rfl (by repeat constructor) rfl (.tmp rfl .nil)) ?_;refine leaf hx1 (List.nil_sublist _) ⟨false,.slice none 0 0,.slice none 0 0,[],[],?_,Ws.nil _,Ws.nil _,fun h => absurd h0 h⟩; rw [if_pos h0]; rfl
 have f2 := h2;try simp only [bl] at f2
 have h0 : ¬ (n < 0 ∧ q = 0) := fun h => by
   have e : q.num = 0 := (qg9 q).1 h.2
   have e2 : (natW q.num.natAbs).length = 0 := by rw [e,Int.natAbs_zero,yh]; rfl
   rcases f2 with f2 | f2 <;> omega
 refine cK (qe (tC (sR ?_)));refine oF 0 underlying148 sizeOf146 ?_;refine oF 0 underlying146 sizeOf48 ?_;refine oF 1 underlying48 sizeOf46 ?_;refine oL isAgg46 ?_;iterate 3 refine oV ?_
 refine zq trivial rfl rfl rfl ?_
 rw [hmax]
 refine oI call112 rfl (qjl _ _ n.natAbs hn1 (by omega) (by omega) hm1) ?_;rintro _ I2 hx2 ⟨u2,rfl,hs2⟩;iterate 5 refine oV ?_
 refine nS ?_;refine oF 0 underlying148 sizeOf146 ?_;refine oF 0 underlying146 sizeOf48 ?_;refine oF 2 underlying48 sizeOf46 ?_;refine oL isAgg46 ?_;iterate 3 refine oV ?_
 refine zq trivial rfl rfl rfl ?_
 rw [hmax]
 refine oI call112 rfl (qjl _ _ n.natAbs (hd1.le hx2.le) (by omega) (by omega) hm2) ?_;rintro _ I3 hx3 ⟨u3,rfl,hs3⟩;iterate 5 refine oV ?_
 refine nS ?_;refine oF 0 underlying148 sizeOf146 ?_;refine oF 0 underlying146 sizeOf48 ?_;refine oF 0 underlying48 sizeOf4 ?_;refine oL isAgg4 ?_;refine' oY (fun hb62 => ?_) ?_;rotate_left
 ·
  have fb62 := hb62
  try simp only [bl] at fb62
  refine gV hb62 ?_;refine qwg (wS rfl rfl hb62) rfl rfl rfl (by decide) ?_;refine gV hb62 ?_;refine oN ?_;exact qa rfl
 refine oV ?_;refine oN (tC (cS (cS ?_)))
 rw [qb] at hs2 hs3
 refine cR ?_;iterate 2 refine oV ?_
 refine nT ?_;refine cC rfl (fun h3 => ?_) (fun h3 => ?_)
 ·
  have f3 := h3;try simp only [bl] at f3
  refine sR ?_;iterate 3 refine oV ?_
  refine oI call45 rfl (qc9 (decide (q.num < 0) && (Int.tmod n 2 != 0)) _ _ _ _ hs3 (hs2.le hx3.le) (by omega) (by omega)) ?_;rintro _ I4 hx4 ⟨u4,u5,rfl,h4,h5⟩;refine oS sizeOf48 ?_;refine oV ?_;refine nF ?_;refine retR rfl (.agg isAgg48 sizeOf48 rfl (by repeat constructor) rfl (.tmp rfl .nil)) ?_
  rw [qb,qb,qha,qns] at h4 h5
  have e : q ^ n = (q ^ n.natAbs)⁻¹ := by
    have e1 : n = -((n.natAbs : Nat) : Int) := by omega
    conv => lhs; rw [e1]
    rw [Rat.zpow_neg,Rat.zpow_natCast]
  refine leaf (hx1.trans (hx2.trans (hx3.trans hx4 (Nat.le_refl _)) (Nat.le_refl _)) (Nat.le_refl _)) (List.nil_sublist _) ⟨_,u4,u5,_,_,?_,h4,h5,fun _ => by rw [e]; exact ⟨rfl,rfl,rfl⟩⟩
  rw [qb,qb,qha,qns,if_neg h0]; rfl
 have f3 := h3;try simp only [bl] at f3
 refine kS ?_;iterate 3 refine oV ?_
 refine oI call45 rfl (qc9 (decide (q.num < 0) && (Int.tmod n 2 != 0)) _ _ _ _ (hs2.le hx3.le) hs3 (by omega) (by omega)) ?_;rintro _ I5 hx5 ⟨u6,u7,rfl,h6,h7⟩;refine oS sizeOf48 ?_;refine oV ?_;refine nE ?_;refine retR rfl (.agg isAgg48 sizeOf48 rfl (by repeat constructor) rfl (.tmp rfl .nil)) ?_
 rw [qb,qb,qha,qnr] at h6 h7
 have e : q ^ n = q ^ n.natAbs := by
   have e1 : n = ((n.natAbs : Nat) : Int) := by omega
   conv => lhs; rw [e1]
   rw [Rat.zpow_natCast]
 refine leaf (hx1.trans (hx2.trans (hx3.trans hx5 (Nat.le_refl _)) (Nat.le_refl _)) (Nat.le_refl _)) (List.nil_sublist _) ⟨_,u6,u7,_,_,?_,h6,h7,fun _ => by rw [e]; exact ⟨rfl,rfl,rfl⟩⟩
 rw [qb,qb,qha,qnr,if_neg h0]; rfl
def qbk (neg : Bool) (A B : List Nat) : Bool := decide (neg = decide ((lowQ neg (val A) (val B)).num < 0)) && decide (A = natW (lowQ neg (val A) (val B)).num.natAbs) && decide (B = natW (lowQ neg (val A) (val B)).den)
theorem qn1 {A : List Nat} (hA : Wds A) : lowL A = A.length ↔ A = natW (val A) := by
 constructor
 · intro h
   have := qc5 hA
   rw [h,List.take_length] at this
   exact this
 · intro h
   rw [qd3 hA,← h]
theorem qwh (neg : Bool) {A B : List Nat} (hA : Wds A) (hB : Wds B) : (decide (lowL A = A.length) && decide (lowL B = B.length) && decide ((val A).gcd (val B) = 1) && decide ((B.length : Int) > 0) && !(neg && (A.length : Int) == 0)) = qbk neg A B := by
 unfold qbk
 rw [Bool.eq_iff_iff]
 simp only [Bool.and_eq_true,decide_eq_true_eq,Bool.not_eq_true',Bool.and_eq_false_iff,beq_eq_false_iff_ne,ne_eq,qn1 hA,qn1 hB]
 constructor
 · rintro ⟨⟨⟨⟨h1, h2⟩, h3⟩, h4⟩, h5⟩
   have hb : val B ≠ 0 := fun e => by rw [e,yh] at h2; rw [h2] at h4; simp at h4
   by_cases ha : val A = 0
   · rw [qfs (.inr ha)]
     rw [ha,Nat.gcd_zero_left] at h3
     rw [ha,yh] at h1
     rw [h3] at h2
     refine ⟨⟨?_,?_⟩,h2⟩
     · have : neg = false := by
         rcases h5 with h5 | h5
         · exact h5
         · rw [h1] at h5; simp at h5
       rw [this]; rfl
     · rw [h1]; exact yh.symm
   · obtain ⟨e1, e2, e3⟩ := qg7 (neg := neg) ha hb
     rw [h3,Nat.div_one] at e1 e2
     exact ⟨⟨e3.symm,by rw [e1]; exact h1⟩,by rw [e2]; exact h2⟩
 · rintro ⟨⟨h1, h2⟩, h3⟩
   generalize lowQ neg (val A) (val B) = q at h1 h2 h3
   have e1 : val A = q.num.natAbs := by rw [h2,qb]
   have e2 : val B = q.den := by rw [h3,qb]
   refine ⟨⟨⟨⟨by rw [e1]; exact h2,by rw [e2]; exact h3⟩,?_⟩,?_⟩,?_⟩
   · rw [e1,e2]; exact q.reduced
   · have : B.length ≠ 0 := fun e => by
       rw [h3] at e
       exact q.den_nz (jh.1 e)
     omega
   · by_cases hn : q.num < 0
     · right
       intro e
       have e4 : (natW q.num.natAbs).length = 0 := by rw [← h2]; omega
       have := jh.1 e4
       omega
     · left; rw [h1,decide_eq_false hn]
theorem qn2 (neg : Bool) (va vb : Value) (A B : List Nat) {I : Hp} (ha : Ws I va A) (hb : Ws I vb B) (hs : A.length ≤ 2000000) (hs2 : B.length ≤ 2000000) : Fun prog 121 [.agg #[.bool neg,va,vb]] I [] (fun v _ _ => v = .bool (qbk neg A B)) := by
 intro w hw
 refine q9 _ func121 rfl ntmps121 rfl ?_ hw;refine sR ?_;refine qo trivial rfl rfl rfl (fun b1 => ?_);refine oV ?_;refine nS ?_;refine oF 1 underlying48 sizeOf46 ?_;refine oL isAgg46 ?_;refine oQ call140 rfl (qni _ _ ha (by omega)) ?_;refine' oY (fun hb6 => ?_) ?_;rotate_left
 ·
  have fb6 := hb6
  try simp only [bl] at fb6
  refine gF hb6 2 underlying48 sizeOf46 ?_;refine gL hb6 isAgg46 ?_;refine yy (wS rfl rfl hb6) rfl call140 rfl (qni _ _ hb (by omega)) ?_;refine oN ?_;exact qa rfl
 refine' oY (fun hb11 => ?_) ?_;rotate_left
 ·
  have fb11 := hb11
  try simp only [bl] at fb11
  refine gF hb11 1 underlying48 sizeOf46 ?_;refine gL hb11 isAgg46 ?_;refine gF hb11 2 underlying48 sizeOf46 ?_;refine gL hb11 isAgg46 ?_;refine yy (wS rfl rfl hb11) rfl call141 rfl (qv6 _ _ _ _ ha hb hs hs2) ?_;refine oN ?_;exact qa rfl
 refine' oY (fun hb18 => ?_) ?_;rotate_left
 ·
  have fb18 := hb18
  try simp only [bl] at fb18
  refine gF hb18 2 underlying48 sizeOf46 ?_;refine gL hb18 isAgg46 ?_;refine vj (wS rfl rfl hb18) rfl underlying46 rfl (hb) ?_;refine gV hb18 ?_;refine oN ?_;exact qa rfl
 refine' oY (fun hb24 => ?_) ?_;rotate_left
 ·
  have fb24 := hb24
  try simp only [bl] at fb24
  refine gF hb24 0 underlying48 sizeOf4 ?_;refine gL hb24 isAgg4 ?_;refine' qca (wS rfl rfl hb24) (wS rfl rfl hb24) rfl rfl rfl rfl rfl rfl rfl rfl (fun hb27 => ?_) ?_;rotate_left
  ·
   have fb27 := hb27
   try simp only [bl] at fb27
   refine gF hb27 1 underlying48 sizeOf46 ?_;refine gL hb27 isAgg46 ?_;refine vj (wS rfl rfl hb27) rfl underlying46 rfl (ha) ?_;refine gV hb27 ?_;refine oN ?_;exact qa rfl
  refine gV hb24 ?_;refine oN ?_;exact qa rfl
 refine oV ?_;refine nE ?_;refine ret1 rfl rfl ?_;refine qg (congrArg Value.bool ?_); exact qwh neg ha.wds hb.wds
end Go.Proofs.YtoincnplajnpnaaGreat
namespace Go.Tw
open Go
def digs (n : Nat) : List Nat := if h : n < 10 then [48 + n] else (48 + n % 10) :: digs (n / 10)
termination_by n
decreasing_by omega
def qan (m : Nat) (out : List Nat) : List Nat := if m = 0 ∧ out ≠ [] then [] else digs m
theorem qn3 {m : Nat} (out : List Nat) (h : 0 < m ∨ out = []) : qan m out = (48 + m % 10) :: qan (m / 10) (out ++ [48 + m % 10]) := by
 have e1 : qan m out = digs m := by
   unfold qan
   rw [if_neg]
   rintro ⟨h1,h2⟩
   rcases h with h | h
   · omega
   · exact h2 h
 rw [e1,digs]
 unfold qan
 by_cases h1 : m < 10
 · rw [dif_pos h1,if_pos ⟨by omega,by simp⟩,Nat.mod_eq_of_lt h1]
 · rw [dif_neg h1,if_neg (fun e => absurd e.1 (by omega))]
theorem qn4 : ∀ (k n : Nat), n < 2 ^ k → (digs n).length ≤ k + 1
 | 0,n,h => by rw [digs,dif_pos (by omega)]; simp
 | k + 1, n, h => by
   rw [digs]
   split
   · simp
   · have := qn4 k (n / 10) (by rw [Nat.pow_succ] at h; omega)
     simp only [List.length_cons]; omega
theorem qda {l : List Nat} (hl : Wds l) {k : Nat} (h : l.length ≤ k) : (digs (val l)).length ≤ 32 * k + 1 := qn4 _ _ (by
 have := y0 hl
 have h2 : 4294967296 ^ l.length ≤ 4294967296 ^ k := Nat.pow_le_pow_right (by decide) h
 rw [show 2 ^ (32 * k) = 4294967296 ^ k by rw [Nat.pow_mul]]
 omega)
def decL (n : Nat) : List Int := (digs n).reverse.map Int.ofNat
def decS (n : Nat) : ByteArray := zb (decL n)
theorem qfv (n : Nat) : (decS n).size = (digs n).length := by unfold decS decL; rw [qis]; simp
def revd (xs : List Int) (i : Nat) : List Int := (List.range xs.length).map fun k => if k < i ∨ xs.length ≤ k + i then xs.getD (xs.length - 1 - k) 0 else xs.getD k 0
theorem qeb (xs : List Int) (i : Nat) : (revd xs i).length = xs.length := by simp [revd]
theorem qec (xs : List Int) (i k : Nat) (hk : k < xs.length) : (revd xs i)[k]? = some (if k < i ∨ xs.length ≤ k + i then xs.getD (xs.length - 1 - k) 0 else xs.getD k 0) := by
 unfold revd
 rw [List.getElem?_map,List.getElem?_range hk]; rfl
theorem qwi (xs : List Int) : revd xs 0 = xs := by
 refine List.ext_getElem? fun k => ?_
 by_cases hk : k < xs.length
 · rw [qec _ _ _ hk,if_neg (by omega),List.getD_eq_getElem?_getD,List.getElem?_eq_getElem hk]; rfl
 · rw [List.getElem?_eq_none (by rw [qeb]; omega),List.getElem?_eq_none (by omega)]
theorem qwj (xs : List Int) (i : Nat) (h : xs.length ≤ 2 * i + 1) : revd xs i = xs.reverse := by
 refine List.ext_getElem? fun k => ?_
 by_cases hk : k < xs.length
 · rw [qec _ _ _ hk, List.getElem?_reverse hk]
   by_cases h2 : k < i ∨ xs.length ≤ k + i
   · rw [if_pos h2,List.getD_eq_getElem?_getD,List.getElem?_eq_getElem (by omega : xs.length - 1 - k < xs.length)]; rfl
   · rw [if_neg h2,show xs.length - 1 - k = k by omega,List.getD_eq_getElem?_getD,List.getElem?_eq_getElem hk]; rfl
 · rw [List.getElem?_eq_none (by rw [qeb]; omega),List.getElem?_eq_none (by simp; omega)]
theorem qn5 (xs : List Int) (i : Nat) (h : 2 * i + 1 < xs.length) : ((revd xs i).set i (xs.getD (xs.length - 1 - i) 0)).set (xs.length - 1 - i) (xs.getD i 0) = revd xs (i + 1) := by
 refine List.ext_getElem? fun k => ?_
 by_cases hk : k < xs.length
 · rw [List.getElem?_set, List.getElem?_set, qec _ _ _ hk, qec _ _ _ hk, List.length_set, qeb]
   by_cases h1 : xs.length - 1 - i = k
   · rw [if_pos h1, if_pos (by omega), if_pos (by omega)]
     rw [show xs.length - 1 - k = i by omega]
   · rw [if_neg h1]
     by_cases h2 : i = k
     · subst h2
       rw [if_pos rfl,if_pos hk,if_pos (by omega)]
     · rw [if_neg h2]
       by_cases h3 : k < i ∨ xs.length ≤ k + i
       · rw [if_pos h3,if_pos (by omega)]
       · rw [if_neg h3,if_neg (by omega)]
 · rw [List.getElem?_eq_none (by simp [qeb]; omega),List.getElem?_eq_none (by rw [qeb]; omega)]
section
variable {P : Program} {n : Nat} {D : List Deferred} {E : Env} {Q : Exit → Act → World → Prop} {w0 : World} {X : List Nat} {I : Hp} {B : List Item}
theorem qwk {c : Code} {e : TypeId} {size nn : Nat} {u : Value} {xs : List Value} (hp : 0 < nn)
   (k : ∀ b cap,u = .slice (some ⟨b,0,none⟩) nn cap → TC P c Q n D E (St w0 X I (.row u e size nn xs :: B))) : TC P c Q n D E (St w0 X I (.row u e size nn xs :: B)) := ⟨fun a w ha hw => by
 obtain ⟨cap,hv⟩ := qiv (hw.own _ List.mem_cons_self) hp
 exact (k _ cap hv).out a w ha hw⟩
end
end Go.Tw
namespace Go.Proofs.YtoincnplajnpnaaGreat
open Go Go.Tw
theorem qwl (b nn cap : Nat) (xs : List Int) {I : Hp} (hx : xs.length = nn) (hp : 0 < nn) (hm : nn ≤ 1000000000) : Fun prog 156 [.slice (some ⟨b,0,none⟩) nn cap] I [.row (.slice (some ⟨b,0,none⟩) nn cap) 5 1 nn (xs.map (Value.int .u8))] (fun _ I' B' => I = I' ∧ B' = [.row (.slice (some ⟨b,0,none⟩) nn cap) 5 1 nn (xs.reverse.map (Value.int .u8))]) := by
 intro w hw
 refine q9 _ func156 rfl ntmps156 rfl ?_ hw;refine sR ?_;refine oV ?_;refine qin trivial rfl underlying117 rfl ?_
 (refine vy trivial rfl rfl rfl ?_ ?_; (omega))
 iterate 2 refine oV ?_
 refine oN (tC (cB ?_));refine qu (ι := Nat × Int) [0] (.cons rfl .nil) (fun x => nn - x.1) (fun x E0 => (2,.int .i64 (x.1 : Int)) :: (3,.int .i64 x.2) :: E0) (fun x => St w _ I [.row (.slice (some ⟨b,0,none⟩) nn cap) 5 1 nn ((revd xs x.1).map (Value.int .u8))]) (fun x => 2 * x.1 ≤ nn + 1 ∧ x.2 = (nn : Int) - 1 - (x.1 : Int)) ((0,(nn : Int) - 1)) (sC rfl (sC rfl (sC rfl sN))) (fun _ h => by rw [qwi]; exact h) (⟨Nat.zero_le _,by simp⟩) ?_;rintro ⟨i,j⟩ ⟨hle,hj⟩
 try dsimp only
 simp only at hle hj; subst hj
 refine cS (sR ?_);iterate 3 refine oV ?_
 refine nT ?_;refine cC rfl (fun h1 => ?_) (fun h1 => ?_)
 ·
  have f1 := h1;try simp only [bl] at f1
  have g1 : ((revd xs i).map (Value.int .u8))[i]? = some (.int .u8 (xs.getD i 0)) := by rw [List.getElem?_map,qec _ _ _ (by omega),if_neg (by omega)]; rfl
  have g2 : ((revd xs i).map (Value.int .u8))[nn - 1 - i]? = some (.int .u8 (xs.getD (nn - 1 - i) 0)) := by rw [List.getElem?_map,qec _ _ _ (by omega),if_neg (by omega)]; rfl
  have hl0 : ((revd xs i).map (Value.int .u8)).length = nn := by rw [List.length_map,qeb,hx]
  refine cK (tC (cS (cB ?_)));refine yb (m := 16) [] (by repeat constructor) (by kernel_rfl) rfl ?_;refine qT (i := 0) (qB 16 1) (Hp.Le.refl _) rfl rfl (oV qF) ?_;refine qT (i := 1) (qB 16 3) (Hp.Le.refl _) rfl rfl (oV qF) ?_;refine qT (i := 2) (qB 16 7) (Hp.Le.refl _) rfl rfl (oV qF) ?_;refine qT (i := 3) (qB 16 15) (Hp.Le.refl _) rfl rfl (oV qF) ?_;refine qT (i := 4) (qB 16 31) (Hp.Le.refl _) rfl rfl (oV qF) ?_;refine qT (i := 5) (qB 16 63) (Hp.Le.refl _) rfl rfl (oV qF) ?_;refine qT (i := 6) (qB 16 127) (Hp.Le.refl _) rfl rfl (yt trivial rfl underlying117 sizeOf5 rfl rfl (by omega) qF) ?_;refine qT (i := 8) (qB 16 383) (Hp.Le.refl _) rfl rfl (oV qF) ?_;refine qT (i := 9) (qB 16 895) (Hp.Le.refl _) rfl rfl (oV qF) ?_;refine qT (i := 10) (qB 16 1919) (Hp.Le.refl _) rfl rfl (yt trivial rfl underlying117 sizeOf5 rfl rfl (by omega) qF) ?_;refine h_go [7,11] (by kernel_rfl) rfl (TWHs.cons ?_ (TWHs.cons ?_ TWHs.nil))
  ·
   refine qP (qB 16 2047) rfl ?_;refine jl trivial rfl isAgg5 (by repeat constructor) rfl (by rw [show 0 + ((nn : Int) - 1 - (i : Int)).toNat * 1 = nn - 1 - i by omega]; exact g2) ?_;refine qM (Hp.Le.refl _) ?_;refine qO (i := 11) (qB 16 4095) rfl ?_;refine jl trivial rfl isAgg5 (by repeat constructor) rfl (by rw [show 0 + ((i : Nat) : Int).toNat * 1 = i by omega]; exact g1) ?_;refine qM (Hp.Le.refl _) ?_;refine qT (i := 12) (qB 16 8191) (Hp.Le.refl _) rfl rfl (yt trivial rfl underlying117 sizeOf5 rfl rfl (by omega) qF) ?_;refine qO (i := 13) (qB 16 16383) rfl ?_;refine qgs (xs' := (((revd xs i).map (Value.int .u8)).set i (.int .u8 (xs.getD (nn - 1 - i) 0)))) (u := .slice (some ⟨b,0,none⟩) nn cap) trivial rfl rfl rfl sizeOf5 rfl rfl (by repeat constructor) (by decide) (by omega) (by rw [show 0 + ((i : Nat) : Int).toNat * 1 = i by omega]; exact qfh (cs := (revd xs i).map (Value.int .u8)) (i := i) (by omega)) ?_;refine qM (Hp.Le.refl _) ?_;refine qT (i := 14) (qB 16 32767) (Hp.Le.refl _) rfl rfl (yt trivial rfl underlying117 sizeOf5 rfl rfl (by omega) qF) ?_;refine qO (i := 15) (qB 16 65535) rfl ?_;refine qgs (xs' := ((((revd xs i).map (Value.int .u8)).set i (.int .u8 (xs.getD (nn - 1 - i) 0))).set (nn - 1 - i) (.int .u8 (xs.getD i 0)))) (u := .slice (some ⟨b,0,none⟩) nn cap) trivial rfl rfl rfl sizeOf5 rfl rfl (by repeat constructor) (by decide) (by omega) (by rw [show 0 + ((nn : Int) - 1 - (i : Int)).toNat * 1 = nn - 1 - i by omega]; exact qfh (cs := ((revd xs i).map (Value.int .u8)).set i (.int .u8 (xs.getD (nn - 1 - i) 0))) (i := nn - 1 - i) (by rw [List.length_set]; omega)) ?_
   refine qM (Hp.Le.refl _) ?_;refine qn (by kernel_rfl) ?_;refine qe (tC (cR ?_));refine oV ?_
   (refine qf trivial rfl rfl rfl ?_ ?_; (omega))
   refine oV ?_
   (refine vy trivial rfl rfl rfl ?_ ?_; (omega))
   iterate 2 refine oV ?_
   refine oN ?_
   have e := congrArg (List.map (Value.int .u8)) (qn5 xs i (by omega))
   rw [List.map_set,List.map_set,hx] at e
   rw [e]
   exact qj (i + 1,(nn : Int) - 1 - (i : Int) - 1) (sC rfl (sC rfl (sC rfl sN))) (fun _ h => h) (by show nn - (i + 1) < nn - i; omega) ⟨by show 2 * (i + 1) ≤ nn + 1; omega,by simp only; omega⟩
  refine qP (qB 16 3967) rfl ?_;refine jl trivial rfl isAgg5 (by repeat constructor) rfl (by rw [show 0 + ((i : Nat) : Int).toNat * 1 = i by omega]; exact g1) ?_;refine qM (Hp.Le.refl _) ?_;refine qO (i := 7) (qB 16 4095) rfl ?_;refine jl trivial rfl isAgg5 (by repeat constructor) rfl (by rw [show 0 + ((nn : Int) - 1 - (i : Int)).toNat * 1 = nn - 1 - i by omega]; exact g2) ?_;refine qM (Hp.Le.refl _) ?_;refine qT (i := 12) (qB 16 8191) (Hp.Le.refl _) rfl rfl (yt trivial rfl underlying117 sizeOf5 rfl rfl (by omega) qF) ?_;refine qO (i := 13) (qB 16 16383) rfl ?_;refine qgs (xs' := (((revd xs i).map (Value.int .u8)).set i (.int .u8 (xs.getD (nn - 1 - i) 0)))) (u := .slice (some ⟨b,0,none⟩) nn cap) trivial rfl rfl rfl sizeOf5 rfl rfl (by repeat constructor) (by decide) (by omega) (by rw [show 0 + ((i : Nat) : Int).toNat * 1 = i by omega]; exact qfh (cs := (revd xs i).map (Value.int .u8)) (i := i) (by omega)) ?_;refine qM (Hp.Le.refl _) ?_;refine qT (i := 14) (qB 16 32767) (Hp.Le.refl _) rfl rfl (yt trivial rfl underlying117 sizeOf5 rfl rfl (by omega) qF) ?_;refine qO (i := 15) (qB 16 65535) rfl ?_;refine qgs (xs' := ((((revd xs i).map (Value.int .u8)).set i (.int .u8 (xs.getD (nn - 1 - i) 0))).set (nn - 1 - i) (.int .u8 (xs.getD i 0)))) (u := .slice (some ⟨b,0,none⟩) nn cap) trivial rfl rfl rfl sizeOf5 rfl rfl (by repeat constructor) (by decide) (by omega) (by rw [show 0 + ((nn : Int) - 1 - (i : Int)).toNat * 1 = nn - 1 - i by omega]; exact qfh (cs := ((revd xs i).map (Value.int .u8)).set i (.int .u8 (xs.getD (nn - 1 - i) 0))) (i := nn - 1 - i) (by rw [List.length_set]; omega)) ?_
  refine qM (Hp.Le.refl _) ?_;refine qn (by kernel_rfl) ?_;refine qe (tC (cR ?_));refine oV ?_
  (refine qf trivial rfl rfl rfl ?_ ?_; (omega))
  refine oV ?_
  (refine vy trivial rfl rfl rfl ?_ ?_; (omega))
  iterate 2 refine oV ?_
  refine oN ?_
  have e := congrArg (List.map (Value.int .u8)) (qn5 xs i (by omega))
  rw [List.map_set,List.map_set,hx] at e
  rw [e]
  exact qj (i + 1,(nn : Int) - 1 - (i : Int) - 1) (sC rfl (sC rfl (sC rfl sN))) (fun _ h => h) (by show nn - (i + 1) < nn - i; omega) ⟨by show 2 * (i + 1) ≤ nn + 1; omega,by simp only; omega⟩
 have f1 := h1;try simp only [bl] at f1
 refine qq (qc (qc (qp rfl ?_)));refine ret0 rfl ?_;refine leaf (Ext.refl _ _) (List.Sublist.refl _) ⟨rfl,?_⟩; rw [qwj _ _ (by omega)]
theorem qwm (va : Value) (A : List Nat) {I : Hp} (ha : Ws I va A) (hs : A.length ≤ 2000000) : Fun prog 142 [va] I [] (fun v _ _ => v = .string (decS (val A))) := by
 have hdl := qda ha.wds hs
 intro w hw
 refine q9 _ func142 rfl ntmps142 rfl ?_ hw;refine sR ?_;refine oV ?_;refine nS ?_;refine oV ?_;refine oN (tC (cS (cB ?_)));refine qu (ι := Value × List Nat × List Nat × Value × Hp) [] .nil (fun x => val x.2.1 + (if x.2.2.1.length = 0 then 1 else 0)) (fun x E0 => (0,x.1) :: (3,x.2.2.2.1) :: E0) (fun x => St w [] x.2.2.2.2 [.row x.2.2.2.1 5 1 x.2.2.1.length ((x.2.2.1.map Int.ofNat).map (Value.int .u8))]) (fun x => Ws x.2.2.2.2 x.1 x.2.1 ∧ x.2.1.length ≤ 2000000 ∧ x.2.2.1 ++ qan (val x.2.1) x.2.2.1 = digs (val A) ∧ Ext w.heap.size I x.2.2.2.2) ((va,A,[],.slice none 0 0,I)) (sC rfl (sC rfl sN)) (fun _ h => h.nilRow _ _) (⟨ha,hs,by simp [qan],Ext.refl _ _⟩) ?_;rintro ⟨u,L,out,r,I1⟩ ⟨hu,hL,hd,hx1⟩
 try dsimp only
 simp only at hu hL hd hx1; have hol : out.length ≤ (digs (val A)).length := by rw [← hd,List.length_append]; omega
 refine cS (sR ?_);refine oV ?_;refine oQ call95 rfl (qfp _ _ hu (by omega)) ?_;refine oV ?_;refine' oZ (fun hb10 => ?_) ?_;rotate_left
 ·
  have fb10 := hb10
  try simp only [bl] at fb10
  refine gV hb10 ?_;refine yi (wS rfl rfl hb10) rfl underlying117 rfl (by repeat constructor) ?_;refine gV hb10 ?_;refine oN ?_;exact qa rfl
 refine nT ?_;refine cC rfl (fun h1 => ?_) (fun h1 => ?_)
 ·
  have f1 := h1;try simp only [bl] at f1
  have hgo : 0 < val L ∨ out = [] := by
    rcases f1 with f1 | f1
    · exact .inl (Nat.pos_of_ne_zero fun e => by rw [e] at f1; simp [bitZ] at f1)
    · exact .inr (List.length_eq_zero_iff.1 (by omega))
  rw [qn3 out hgo] at hd
  refine cK (tC (cB (sR ?_)));refine oV ?_;refine oI call131 rfl (qnn _ _ 10 hu (by omega) (by decide) (by decide)) ?_;rintro _ I2 hx2 ⟨u2,rfl,hs2⟩;iterate 7 refine oV ?_
  refine nS ?_;iterate 2 refine oV ?_
  refine qbf trivial rfl rfl rfl (by rw [IntWalk.u32_in _ (by omega)]) ?_;refine ya trivial rfl underlying83 underlying5 rfl (by rw [IntWalk.u8_in _ (by omega)]) ?_;refine oB underlying117 sizeOf5 zeroValue5 fun b25 => ?_;refine oD underlying117 qvd fun v26 => ?_;refine oV ?_;refine nR ?_;iterate 2 refine oV ?_
  refine oN (qe ?_)
  have hl2 : (natW (val L / 10)).length ≤ 2000000 := Nat.le_trans (y8 (Nat.div_le_self _ _)) (Nat.le_trans (qad hu.wds) hL)
  have hms : val (natW (val L / 10)) + (if (out ++ [48 + val L % 10]).length = 0 then 1 else 0) < val L + (if out.length = 0 then 1 else 0) := by
    rw [qb,if_neg (by simp)]
    rcases hgo with hgo | hgo
    · omega
    · rw [if_pos (by rw [hgo]; rfl)]; omega
  exact qj (u2,natW (val L / 10),out ++ [48 + val L % 10],v26,I2) (sC rfl (sC rfl sN)) (fun _ h => by simp only [List.map_append,List.length_append]; exact h.sort (by repeat constructor)) hms ⟨hs2,hl2,by simp only; rw [qb,← hd]; simp,hx1.trans hx2 (Nat.le_refl _)⟩
 have f1 := h1;try simp only [bl] at f1
 have hL0 : val L = 0 := qc6.1 (by omega)
 have hne : out ≠ [] := fun e => by rw [e] at f1; simp at f1
 refine qq (qc (qc (qp rfl (tC (cS ?_)))));refine qwk (by have := List.length_pos_iff.2 hne; omega) (fun b cap hr => ?_)
 subst hr
 refine cR ?_;refine oV ?_;refine oC trivial rfl call156 rfl (qwl b _ cap (out.map Int.ofNat) (by simp) (List.length_pos_iff.2 hne) (by omega)) (by repeat constructor) ?_;rintro _ _ _ hx3 ⟨rfl,rfl⟩;refine nS ?_;refine oV ?_;refine qty (ns := (out.map Int.ofNat).reverse) trivial rfl underlying117 underlying5 underlying9 rfl (by repeat constructor) (by omega) ?_;refine oV ?_;refine nE ?_;refine ret1 rfl rfl ?_;refine leaf hx1 (List.nil_sublist _) (congrArg Value.string ?_)
 unfold qan at hd
 rw [if_pos ⟨hL0,hne⟩,List.append_nil] at hd
 unfold decS decL
 rw [← hd,List.map_reverse]
theorem qhb (va : Value) (A : List Nat) {I : Hp} (ha : Ws I va A) (hs : A.length ≤ 2000000) : Fun prog 122 [va] I [] (fun v _ _ => v = .int .i64 ((digs (val A)).length : Nat)) := by
 have hdl := qda ha.wds hs
 have hsz := qfv (val A)
 intro w hw
 refine q9 _ func122 rfl ntmps122 rfl ?_ hw;refine sR ?_;refine oV ?_;refine nS ?_;refine oV ?_;refine oQ call142 rfl (qwm _ _ ha hs) ?_;refine qau trivial rfl underlying9 rfl ?_;refine oV ?_;refine nE ?_;refine ret1 rfl rfl ?_;refine qg (congrArg (Value.int .i64) ?_); omega
def yf (neg : Bool) (A B : List Nat) : Bool := qbk neg A B && decide ((digs (val A)).length ≤ 40) && decide ((digs (val B)).length ≤ 40)
theorem qwn (neg : Bool) (va vb : Value) (A B : List Nat) {I : Hp} (ha : Ws I va A) (hb : Ws I vb B) (hs : A.length ≤ 2000000) (hs2 : B.length ≤ 2000000) : Fun prog 87 [.agg #[.bool neg,va,vb]] I [] (fun v _ _ => v = .bool (yf neg A B)) := by
 intro w hw
 refine q9 _ func87 rfl ntmps87 rfl ?_ hw;refine sR ?_;refine qo trivial rfl rfl rfl (fun b1 => ?_);refine oV ?_;refine nS ?_;refine oA isAgg48 sizeOf48 ?_;refine oQ call121 rfl (qn2 neg _ _ _ _ ha hb (by omega) (by omega)) ?_;refine' oY (fun hb5 => ?_) ?_;rotate_left
 ·
  have fb5 := hb5
  try simp only [bl] at fb5
  refine gF hb5 1 underlying48 sizeOf46 ?_;refine gL hb5 isAgg46 ?_;refine yy (wS rfl rfl hb5) rfl call122 rfl (qhb _ _ ha hs) ?_;refine gV hb5 ?_;refine oN ?_;exact qa rfl
 refine' oY (fun hb11 => ?_) ?_;rotate_left
 ·
  have fb11 := hb11
  try simp only [bl] at fb11
  refine gF hb11 2 underlying48 sizeOf46 ?_;refine gL hb11 isAgg46 ?_;refine yy (wS rfl rfl hb11) rfl call122 rfl (qhb _ _ hb hs2) ?_;refine gV hb11 ?_;refine oN ?_;exact qa rfl
 refine oV ?_;refine nE ?_;refine ret1 rfl rfl ?_;refine qg (congrArg Value.bool ?_); unfold yf; rw [Bool.eq_iff_iff]; simp only [Bool.and_eq_true,decide_eq_true_eq]; constructor <;> (rintro ⟨⟨h1,h2⟩,h3⟩; exact ⟨⟨h1,by omega⟩,by omega⟩)
end Go.Proofs.YtoincnplajnpnaaGreat
namespace Go.Tw
open Go
structure OpC where
 code : Int
 a : Int
 b : Int
 e : Int
 neg : Bool
 n : List Nat
 d : List Nat
structure OpV where
 c : OpC
 vn : Value
 vd : Value
def OpV.cells (o : OpV) : List Value := [.int .i64 o.c.code,.int .i64 o.c.a,.int .i64 o.c.b,.int .i64 o.c.e,.bool o.c.neg,o.vn,o.vd]
def OpV.ok (I : Hp) (o : OpV) : Prop := Ws I o.vn o.c.n ∧ Ws I o.vd o.c.d
theorem OpV.ok.le {I I' : Hp} {o : OpV} (h : o.ok I) (hl : I.Le I') : o.ok I' := ⟨h.1.le hl,h.2.le hl⟩
structure yr where
 ins : Int
 ops : List OpC
 outs : List Int
def ics (l : List Int) : List (List Value) := l.map fun z => [.int .i64 z]
structure ji (I : Hp) (vo vu : Value) (t : yr) (os : List OpV) : Prop where
 so : Slc I 7 vo (os.map OpV.cells)
 ok : ∀ o ∈ os,o.ok I
 eq : os.map OpV.c = t.ops
 su : Slc I 1 vu (ics t.outs)
theorem ji.le {I I' : Hp} {vo vu : Value} {t : yr} {os : List OpV} (h : ji I vo vu t os) (hl : I.Le I') : ji I' vo vu t os :=
 ⟨h.so.le hl,fun o ho => (h.ok o ho).le hl,h.eq,h.su.le hl⟩
def OpC.few (k : Nat) (o : OpC) : Prop := o.n.length ≤ k ∧ o.d.length ≤ k
def ve (neg : Bool) (A B : List Nat) : Bool := !neg && decide (A.length = 0) && decide (B.length = 0)
end Go.Tw
namespace Go.Proofs.YtoincnplajnpnaaGreat
open Go Go.Tw
theorem qhc (n : Int) {I : Hp} (h : -1000000 ≤ n ∧ n ≤ 1000000) : Fun prog 89 [.int .i64 n] I [] (fun v _ _ => v = .int .i64 (n.natAbs : Nat)) := by
 intro w hw
 refine q9 _ func89 rfl ntmps89 rfl ?_ hw;refine sR ?_;refine oV ?_;refine nS ?_;iterate 3 refine oV ?_
 refine zq trivial rfl rfl rfl ?_;refine oV ?_;refine nE ?_;refine ret1 rfl rfl ?_;refine qg (congrArg (Value.int .i64) ?_); rw [IntWalk.i64_in _ (by omega)]; omega
theorem qbl (neg : Bool) (va vb : Value) (A B : List Nat) {I : Hp} (ha : Ws I va A) (hb : Ws I vb B) : Fun prog 88 [.agg #[.bool neg,va,vb]] I [] (fun v _ _ => v = .bool (ve neg A B)) := by
 intro w hw
 refine q9 _ func88 rfl ntmps88 rfl ?_ hw;refine sR ?_;refine qo trivial rfl rfl rfl (fun b1 => ?_);refine oV ?_;refine nS ?_;refine oF 0 underlying48 sizeOf4 ?_;refine oL isAgg4 ?_;refine oV ?_;refine' oY (fun hb6 => ?_) ?_;rotate_left
 ·
  have fb6 := hb6
  try simp only [bl] at fb6
  refine gF hb6 1 underlying48 sizeOf46 ?_;refine gL hb6 isAgg46 ?_;refine vj (wS rfl rfl hb6) rfl underlying46 rfl (ha) ?_;refine gV hb6 ?_;refine oN ?_;exact qa rfl
 refine' oY (fun hb12 => ?_) ?_;rotate_left
 ·
  have fb12 := hb12
  try simp only [bl] at fb12
  refine gF hb12 2 underlying48 sizeOf46 ?_;refine gL hb12 isAgg46 ?_;refine vj (wS rfl rfl hb12) rfl underlying46 rfl (hb) ?_;refine gV hb12 ?_;refine oN ?_;exact qa rfl
 refine oV ?_;refine nE ?_;refine ret1 rfl rfl ?_;refine qg (congrArg Value.bool ?_); unfold ve; rw [Bool.eq_iff_iff]; simp
def v7 (o : OpC) : Bool :=
 if o.code = 1 then yf o.neg o.n o.d && decide (o.a = 0 ∧ o.b = 0 ∧ o.e = 0)
 else if 2 ≤ o.code ∧ o.code ≤ 5 then ve o.neg o.n o.d && decide (o.e = 0)
 else if o.code = 6 then ve o.neg o.n o.d && decide (o.b = 0 ∧ o.e = 0)
 else if o.code = 7 then ve o.neg o.n o.d && decide (o.b = 0 ∧ -20 ≤ o.e ∧ o.e ≤ 20)
 else false
theorem qwo (code a b e : Int) (neg : Bool) (va vb : Value) (A B : List Nat) {I : Hp} (ha : Ws I va A) (hb : Ws I vb B) (hs : A.length ≤ 2000000) (hs2 : B.length ≤ 2000000) : Fun prog 61 [.agg #[.int .i64 code,.int .i64 a,.int .i64 b,.int .i64 e,.bool neg,va,vb]] I [] (fun v _ _ => v = .bool (v7 ⟨code,a,b,e,neg,A,B⟩)) := by
 intro w hw
 refine q9 _ func61 rfl ntmps61 rfl ?_ hw;refine sR ?_;refine qo trivial rfl rfl rfl (fun b1 => ?_);refine oV ?_;refine nU ?_;refine oF 0 underlying53 sizeOf3 ?_;refine oL isAgg3 ?_;refine oN (tC (cB (cS (cB (cS (cB (cS (cB (cS (cB (cS (cS (sR ?_)))))))))))));iterate 2 refine oV ?_
 refine nT ?_;refine cC rfl (fun h1 => ?_) (fun h1 => ?_)
 ·
  have f1 := h1;try simp only [bl] at f1
  refine qq (qc (qc (qp rfl (tC (cS (sR ?_))))));refine oF 4 underlying53 sizeOf48 ?_;refine oA isAgg48 sizeOf48 ?_;refine oQ call87 rfl (qwn neg _ _ _ _ ha hb hs hs2) ?_;refine oV ?_;refine' oZ (fun hb20 => ?_) ?_;rotate_left
  ·
   have fb20 := hb20
   try simp only [bl] at fb20
   refine gF hb20 1 underlying53 sizeOf3 ?_;refine gL hb20 isAgg3 ?_;refine gV hb20 ?_;refine oN ?_;exact qa rfl
  refine nT ?_;refine cC rfl (fun h8 => ?_) (fun h8 => ?_)
  ·
   have f8 := h8;try simp only [bl] at f8
   refine sR ?_;refine oV ?_;refine oN (tC (cT (tR (qd (tR (qd (tR (qd (tR (qd (tR ?_)))))))))));refine ret1 rfl rfl ?_;refine qg (congrArg Value.bool ?_)
   unfold v7
   dsimp only
   (try rw [show ve false [] [] = true from rfl]
    generalize yf neg A B = K at *
    generalize ve neg A B = Z at *
    repeat (rw [if_pos (by omega)])
    try rw [Bool.eq_iff_iff]
    (cases K <;> cases Z <;> simp_all <;> omega))
  have f8 := h8;try simp only [bl] at f8
  refine cK (tC (cR ?_));refine vg trivial rfl (zd) rfl .nil ?_;refine oF 4 underlying53 sizeOf48 ?_;refine oS sizeOf48 ?_;refine oN (qe (tC (sR ?_)));refine oF 2 underlying53 sizeOf3 ?_;refine oL isAgg3 ?_;refine oV ?_;refine nT ?_;refine cC rfl (fun h9 => ?_) (fun h9 => ?_)
  ·
   have f9 := h9;try simp only [bl] at f9
   refine sR ?_;refine oV ?_;refine oN (tC (cT (qd (tR (qd (tR (qd (tR ?_))))))));refine ret1 rfl rfl ?_;refine qg (congrArg Value.bool ?_)
   unfold v7
   dsimp only
   (try rw [show ve false [] [] = true from rfl]
    generalize yf neg A B = K at *
    generalize ve neg A B = Z at *
    repeat (rw [if_pos (by omega)])
    try rw [Bool.eq_iff_iff]
    (cases K <;> cases Z <;> simp_all <;> omega))
  have f9 := h9;try simp only [bl] at f9
  refine cK (qe (tC (sR ?_)));refine oF 3 underlying53 sizeOf3 ?_;refine oL isAgg3 ?_;refine oV ?_;refine nT ?_;refine cC rfl (fun h10 => ?_) (fun h10 => ?_)
  ·
   have f10 := h10;try simp only [bl] at f10
   refine sR ?_;refine oV ?_;refine oN (tC (cT (qd (tR (qd (tR ?_))))));refine ret1 rfl rfl ?_;refine qg (congrArg Value.bool ?_)
   unfold v7
   dsimp only
   (try rw [show ve false [] [] = true from rfl]
    generalize yf neg A B = K at *
    generalize ve neg A B = Z at *
    repeat (rw [if_pos (by omega)])
    try rw [Bool.eq_iff_iff]
    (cases K <;> cases Z <;> simp_all <;> omega))
  have f10 := h10;try simp only [bl] at f10
  refine cK (qe (tC (cS (sR ?_))));refine oF 4 underlying53 sizeOf48 ?_;refine oA isAgg48 sizeOf48 ?_
  (have h88 := h8; refine oQ call88 rfl (qbl false (.slice none 0 0) (.slice none 0 0) [] [] (Ws.nil _) (Ws.nil _)) ?_)
  refine' oY (fun hb36 => ?_) ?_;rotate_left
  ·
   have fb36 := hb36
   try simp only [bl] at fb36
   refine gF hb36 3 underlying53 sizeOf3 ?_;refine gL hb36 isAgg3 ?_;refine gV hb36 ?_;refine oN ?_;exact qa rfl
  refine' oY (fun hb41 => ?_) ?_;rotate_left
  ·
   have fb41 := hb41
   try simp only [bl] at fb41
   refine gF hb41 3 underlying53 sizeOf3 ?_;refine gL hb41 isAgg3 ?_;refine gV hb41 ?_;refine oN ?_;exact qa rfl
  refine' oY (fun hb46 => ?_) ?_;rotate_left
  ·
   have fb46 := hb46
   try simp only [bl] at fb46
   refine gF hb46 0 underlying53 sizeOf3 ?_;refine gL hb46 isAgg3 ?_;refine gV hb46 ?_;refine' o_or (wS rfl rfl hb46) (wS rfl rfl hb46) rfl rfl rfl rfl rfl rfl rfl rfl (fun hb50 => ?_) ?_;rotate_left
   ·
    have fb50 := hb50
    try simp only [bl] at fb50
    refine gF hb50 2 underlying53 sizeOf3 ?_;refine gL hb50 isAgg3 ?_;refine gV hb50 ?_;refine oN ?_;exact qa rfl
   refine oN ?_;exact qa rfl
  refine oV ?_;refine oN (tC (cT (tR (qd (tR ?_)))));refine ret1 rfl rfl ?_;refine qg (congrArg Value.bool ?_)
  unfold v7
  dsimp only
  (try rw [show ve false [] [] = true from rfl]
   generalize yf neg A B = K at *
   generalize ve neg A B = Z at *
   repeat (rw [if_pos (by omega)])
   try rw [Bool.eq_iff_iff]
   (cases K <;> cases Z <;> simp_all <;> omega))
 have f1 := h1;try simp only [bl] at f1
 refine cK (tC (cS (sR ?_)));iterate 2 refine oV ?_
 refine nT ?_;refine cC rfl (fun h2 => ?_) (fun h2 => ?_)
 ·
  have f2 := h2;try simp only [bl] at f2
  refine qq (qc (qc (ye rfl (qc (qp rfl (tC (sR ?_)))))));refine oF 2 underlying53 sizeOf3 ?_;refine oL isAgg3 ?_;refine oV ?_;refine nT ?_;refine cC rfl (fun h9 => ?_) (fun h9 => ?_)
  ·
   have f9 := h9;try simp only [bl] at f9
   refine sR ?_;refine oV ?_;refine oN (tC (cT (qd (tR (qd (tR (qd (tR ?_))))))));refine ret1 rfl rfl ?_;refine qg (congrArg Value.bool ?_)
   unfold v7
   dsimp only
   (try rw [show ve false [] [] = true from rfl]
    generalize yf neg A B = K at *
    generalize ve neg A B = Z at *
    repeat (first | rw [if_pos (by omega)] | rw [if_neg (by omega)])
    try rw [Bool.eq_iff_iff]
    (cases K <;> cases Z <;> simp_all <;> omega))
  have f9 := h9;try simp only [bl] at f9
  refine cK (qe (tC (sR ?_)));refine oF 3 underlying53 sizeOf3 ?_;refine oL isAgg3 ?_;refine oV ?_;refine nT ?_;refine cC rfl (fun h10 => ?_) (fun h10 => ?_)
  ·
   have f10 := h10;try simp only [bl] at f10
   refine sR ?_;refine oV ?_;refine oN (tC (cT (qd (tR (qd (tR ?_))))));refine ret1 rfl rfl ?_;refine qg (congrArg Value.bool ?_)
   unfold v7
   dsimp only
   (try rw [show ve false [] [] = true from rfl]
    generalize yf neg A B = K at *
    generalize ve neg A B = Z at *
    repeat (first | rw [if_pos (by omega)] | rw [if_neg (by omega)])
    try rw [Bool.eq_iff_iff]
    (cases K <;> cases Z <;> simp_all <;> omega))
  have f10 := h10;try simp only [bl] at f10
  refine cK (qe (tC (cS (sR ?_))));refine oF 4 underlying53 sizeOf48 ?_;refine oA isAgg48 sizeOf48 ?_;refine yy trivial rfl call88 rfl (qbl neg va vb A B ha hb) ?_;refine' oY (fun hb36 => ?_) ?_;rotate_left
  ·
   have fb36 := hb36
   try simp only [bl] at fb36
   refine gF hb36 3 underlying53 sizeOf3 ?_;refine gL hb36 isAgg3 ?_;refine gV hb36 ?_;refine oN ?_;exact qa rfl
  refine' oY (fun hb41 => ?_) ?_;rotate_left
  ·
   have fb41 := hb41
   try simp only [bl] at fb41
   refine gF hb41 3 underlying53 sizeOf3 ?_;refine gL hb41 isAgg3 ?_;refine gV hb41 ?_;refine oN ?_;exact qa rfl
  refine' oY (fun hb46 => ?_) ?_;rotate_left
  ·
   have fb46 := hb46
   try simp only [bl] at fb46
   refine gF hb46 0 underlying53 sizeOf3 ?_;refine gL hb46 isAgg3 ?_;refine gV hb46 ?_;refine' o_or (wS rfl rfl hb46) (wS rfl rfl hb46) rfl rfl rfl rfl rfl rfl rfl rfl (fun hb50 => ?_) ?_;rotate_left
   ·
    have fb50 := hb50
    try simp only [bl] at fb50
    refine gF hb50 2 underlying53 sizeOf3 ?_;refine gL hb50 isAgg3 ?_;refine gV hb50 ?_;refine oN ?_;exact qa rfl
   refine oN ?_;exact qa rfl
  refine oV ?_;refine oN (tC (cT (tR (qd (tR ?_)))));refine ret1 rfl rfl ?_;refine qg (congrArg Value.bool ?_)
  unfold v7
  dsimp only
  (try rw [show ve false [] [] = true from rfl]
   generalize yf neg A B = K at *
   generalize ve neg A B = Z at *
   repeat (first | rw [if_pos (by omega)] | rw [if_neg (by omega)])
   try rw [Bool.eq_iff_iff]
   (cases K <;> cases Z <;> simp_all <;> omega))
 have f2 := h2;try simp only [bl] at f2
 refine cK (tC (cS (cS (sR ?_))));iterate 2 refine oV ?_
 refine nT ?_;refine cC rfl (fun h3 => ?_) (fun h3 => ?_)
 ·
  have f3 := h3;try simp only [bl] at f3
  refine cK (tC ?_);refine cC rfl (fun h6 => ?_) (fun h6 => ?_)
  ·
   have f6 := h6;try simp only [bl] at f6
   refine qq (qc (qc (ye rfl (qc (ye rfl (qc (qp rfl (tC (sR ?_)))))))));refine oF 3 underlying53 sizeOf3 ?_;refine oL isAgg3 ?_;refine oV ?_;refine nT ?_;refine cC rfl (fun h10 => ?_) (fun h10 => ?_)
   ·
    have f10 := h10;try simp only [bl] at f10
    refine sR ?_;refine oV ?_;refine oN (tC (cT (qd (tR (qd (tR ?_))))));refine ret1 rfl rfl ?_;refine qg (congrArg Value.bool ?_)
    unfold v7
    dsimp only
    (try rw [show ve false [] [] = true from rfl]
     generalize yf neg A B = K at *
     generalize ve neg A B = Z at *
     repeat (first | rw [if_pos (by omega)] | rw [if_neg (by omega)])
     try rw [Bool.eq_iff_iff]
     (cases K <;> cases Z <;> simp_all <;> omega))
   have f10 := h10;try simp only [bl] at f10
   refine cK (qe (tC (cS (sR ?_))));refine oF 4 underlying53 sizeOf48 ?_;refine oA isAgg48 sizeOf48 ?_;refine yy trivial rfl call88 rfl (qbl neg va vb A B ha hb) ?_;refine' oY (fun hb36 => ?_) ?_;rotate_left
   ·
    have fb36 := hb36
    try simp only [bl] at fb36
    refine gF hb36 3 underlying53 sizeOf3 ?_;refine gL hb36 isAgg3 ?_;refine gV hb36 ?_;refine oN ?_;exact qa rfl
   refine' oY (fun hb41 => ?_) ?_;rotate_left
   ·
    have fb41 := hb41
    try simp only [bl] at fb41
    refine gF hb41 3 underlying53 sizeOf3 ?_;refine gL hb41 isAgg3 ?_;refine gV hb41 ?_;refine oN ?_;exact qa rfl
   refine' oY (fun hb46 => ?_) ?_;rotate_left
   ·
    have fb46 := hb46
    try simp only [bl] at fb46
    refine gF hb46 0 underlying53 sizeOf3 ?_;refine gL hb46 isAgg3 ?_;refine gV hb46 ?_;refine' o_or (wS rfl rfl hb46) (wS rfl rfl hb46) rfl rfl rfl rfl rfl rfl rfl rfl (fun hb50 => ?_) ?_;rotate_left
    ·
     have fb50 := hb50
     try simp only [bl] at fb50
     refine gF hb50 2 underlying53 sizeOf3 ?_;refine gL hb50 isAgg3 ?_;refine gV hb50 ?_;refine oN ?_;exact qa rfl
    refine oN ?_;exact qa rfl
   refine oV ?_;refine oN (tC (cT (tR (qd (tR ?_)))));refine ret1 rfl rfl ?_;refine qg (congrArg Value.bool ?_)
   unfold v7
   dsimp only
   (try rw [show ve false [] [] = true from rfl]
    generalize yf neg A B = K at *
    generalize ve neg A B = Z at *
    repeat (first | rw [if_pos (by omega)] | rw [if_neg (by omega)])
    try rw [Bool.eq_iff_iff]
    (cases K <;> cases Z <;> simp_all <;> omega))
  have f6 := h6;try simp only [bl] at f6
  refine kS ?_;iterate 2 refine oV ?_
  refine nT ?_;refine cC rfl (fun h7 => ?_) (fun h7 => ?_)
  ·
   have f7 := h7;try simp only [bl] at f7
   refine qq (qc (ye rfl (qc (ye rfl (qc (ye rfl (qc (qp rfl (tC (cS (sR ?_)))))))))));refine oF 4 underlying53 sizeOf48 ?_;refine oA isAgg48 sizeOf48 ?_;refine yy trivial rfl call88 rfl (qbl neg va vb A B ha hb) ?_;refine' oY (fun hb36 => ?_) ?_;rotate_left
   ·
    have fb36 := hb36
    try simp only [bl] at fb36
    refine gF hb36 3 underlying53 sizeOf3 ?_;refine gL hb36 isAgg3 ?_;refine gV hb36 ?_;refine oN ?_;exact qa rfl
   refine' oY (fun hb41 => ?_) ?_;rotate_left
   ·
    have fb41 := hb41
    try simp only [bl] at fb41
    refine gF hb41 3 underlying53 sizeOf3 ?_;refine gL hb41 isAgg3 ?_;refine gV hb41 ?_;refine oN ?_;exact qa rfl
   refine' oY (fun hb46 => ?_) ?_;rotate_left
   ·
    have fb46 := hb46
    try simp only [bl] at fb46
    refine gF hb46 0 underlying53 sizeOf3 ?_;refine gL hb46 isAgg3 ?_;refine gV hb46 ?_;refine' o_or (wS rfl rfl hb46) (wS rfl rfl hb46) rfl rfl rfl rfl rfl rfl rfl rfl (fun hb50 => ?_) ?_;rotate_left
    ·
     have fb50 := hb50
     try simp only [bl] at fb50
     refine gF hb50 2 underlying53 sizeOf3 ?_;refine gL hb50 isAgg3 ?_;refine gV hb50 ?_;refine oN ?_;exact qa rfl
    refine oN ?_;exact qa rfl
   refine oV ?_;refine oN (tC (cT (tR (qd (tR ?_)))));refine ret1 rfl rfl ?_;refine qg (congrArg Value.bool ?_)
   unfold v7
   dsimp only
   (exfalso; omega)
  have f7 := h7;try simp only [bl] at f7
  refine cK (tC (qq (ye rfl (qc (ye rfl (qc (ye rfl (qc (ye rfl (qc (qp rfl (tC (sR ?_)))))))))))));refine oV ?_;refine nE ?_;refine ret1 rfl rfl ?_;refine qg (congrArg Value.bool ?_)
  unfold v7
  dsimp only
  (exfalso; omega)
 have f3 := h3;try simp only [bl] at f3
 refine sR ?_;iterate 2 refine oV ?_
 refine nT ?_;refine cC rfl (fun h4 => ?_) (fun h4 => ?_)
 ·
  have f4 := h4;try simp only [bl] at f4
  refine cK (tC ?_);refine cC rfl (fun h6 => ?_) (fun h6 => ?_)
  ·
   have f6 := h6;try simp only [bl] at f6
   refine qq (qc (qc (ye rfl (qc (ye rfl (qc (qp rfl (tC (sR ?_)))))))));refine oF 3 underlying53 sizeOf3 ?_;refine oL isAgg3 ?_;refine oV ?_;refine nT ?_;refine cC rfl (fun h10 => ?_) (fun h10 => ?_)
   ·
    have f10 := h10;try simp only [bl] at f10
    refine sR ?_;refine oV ?_;refine oN (tC (cT (qd (tR (qd (tR ?_))))));refine ret1 rfl rfl ?_;refine qg (congrArg Value.bool ?_)
    unfold v7
    dsimp only
    (try rw [show ve false [] [] = true from rfl]
     generalize yf neg A B = K at *
     generalize ve neg A B = Z at *
     repeat (first | rw [if_pos (by omega)] | rw [if_neg (by omega)])
     try rw [Bool.eq_iff_iff]
     (cases K <;> cases Z <;> simp_all <;> omega))
   have f10 := h10;try simp only [bl] at f10
   refine cK (qe (tC (cS (sR ?_))));refine oF 4 underlying53 sizeOf48 ?_;refine oA isAgg48 sizeOf48 ?_;refine yy trivial rfl call88 rfl (qbl neg va vb A B ha hb) ?_;refine' oY (fun hb36 => ?_) ?_;rotate_left
   ·
    have fb36 := hb36
    try simp only [bl] at fb36
    refine gF hb36 3 underlying53 sizeOf3 ?_;refine gL hb36 isAgg3 ?_;refine gV hb36 ?_;refine oN ?_;exact qa rfl
   refine' oY (fun hb41 => ?_) ?_;rotate_left
   ·
    have fb41 := hb41
    try simp only [bl] at fb41
    refine gF hb41 3 underlying53 sizeOf3 ?_;refine gL hb41 isAgg3 ?_;refine gV hb41 ?_;refine oN ?_;exact qa rfl
   refine' oY (fun hb46 => ?_) ?_;rotate_left
   ·
    have fb46 := hb46
    try simp only [bl] at fb46
    refine gF hb46 0 underlying53 sizeOf3 ?_;refine gL hb46 isAgg3 ?_;refine gV hb46 ?_;refine' o_or (wS rfl rfl hb46) (wS rfl rfl hb46) rfl rfl rfl rfl rfl rfl rfl rfl (fun hb50 => ?_) ?_;rotate_left
    ·
     have fb50 := hb50
     try simp only [bl] at fb50
     refine gF hb50 2 underlying53 sizeOf3 ?_;refine gL hb50 isAgg3 ?_;refine gV hb50 ?_;refine oN ?_;exact qa rfl
    refine oN ?_;exact qa rfl
   refine oV ?_;refine oN (tC (cT (tR (qd (tR ?_)))));refine ret1 rfl rfl ?_;refine qg (congrArg Value.bool ?_)
   unfold v7
   dsimp only
   (try rw [show ve false [] [] = true from rfl]
    generalize yf neg A B = K at *
    generalize ve neg A B = Z at *
    repeat (first | rw [if_pos (by omega)] | rw [if_neg (by omega)])
    try rw [Bool.eq_iff_iff]
    (cases K <;> cases Z <;> simp_all <;> omega))
  have f6 := h6;try simp only [bl] at f6
  refine kS ?_;iterate 2 refine oV ?_
  refine nT ?_;refine cC rfl (fun h7 => ?_) (fun h7 => ?_)
  ·
   have f7 := h7;try simp only [bl] at f7
   refine qq (qc (ye rfl (qc (ye rfl (qc (ye rfl (qc (qp rfl (tC (cS (sR ?_)))))))))));refine oF 4 underlying53 sizeOf48 ?_;refine oA isAgg48 sizeOf48 ?_;refine yy trivial rfl call88 rfl (qbl neg va vb A B ha hb) ?_;refine' oY (fun hb36 => ?_) ?_;rotate_left
   ·
    have fb36 := hb36
    try simp only [bl] at fb36
    refine gF hb36 3 underlying53 sizeOf3 ?_;refine gL hb36 isAgg3 ?_;refine gV hb36 ?_;refine oN ?_;exact qa rfl
   refine' oY (fun hb41 => ?_) ?_;rotate_left
   ·
    have fb41 := hb41
    try simp only [bl] at fb41
    refine gF hb41 3 underlying53 sizeOf3 ?_;refine gL hb41 isAgg3 ?_;refine gV hb41 ?_;refine oN ?_;exact qa rfl
   refine' oY (fun hb46 => ?_) ?_;rotate_left
   ·
    have fb46 := hb46
    try simp only [bl] at fb46
    refine gF hb46 0 underlying53 sizeOf3 ?_;refine gL hb46 isAgg3 ?_;refine gV hb46 ?_;refine' o_or (wS rfl rfl hb46) (wS rfl rfl hb46) rfl rfl rfl rfl rfl rfl rfl rfl (fun hb50 => ?_) ?_;rotate_left
    ·
     have fb50 := hb50
     try simp only [bl] at fb50
     refine gF hb50 2 underlying53 sizeOf3 ?_;refine gL hb50 isAgg3 ?_;refine gV hb50 ?_;refine oN ?_;exact qa rfl
    refine oN ?_;exact qa rfl
   refine oV ?_;refine oN (tC (cT (tR (qd (tR ?_)))));refine ret1 rfl rfl ?_;refine qg (congrArg Value.bool ?_)
   unfold v7
   dsimp only
   (exfalso; omega)
  have f7 := h7;try simp only [bl] at f7
  refine cK (tC (qq (ye rfl (qc (ye rfl (qc (ye rfl (qc (ye rfl (qc (qp rfl (tC (sR ?_)))))))))))));refine oV ?_;refine nE ?_;refine ret1 rfl rfl ?_;refine qg (congrArg Value.bool ?_)
  unfold v7
  dsimp only
  (exfalso; omega)
 have f4 := h4;try simp only [bl] at f4
 refine sR ?_;iterate 2 refine oV ?_
 refine nT ?_;refine cC rfl (fun h5 => ?_) (fun h5 => ?_)
 ·
  have f5 := h5;try simp only [bl] at f5
  refine cK (tC ?_);refine cC rfl (fun h6 => ?_) (fun h6 => ?_)
  ·
   have f6 := h6;try simp only [bl] at f6
   refine qq (qc (qc (ye rfl (qc (ye rfl (qc (qp rfl (tC (sR ?_)))))))));refine oF 3 underlying53 sizeOf3 ?_;refine oL isAgg3 ?_;refine oV ?_;refine nT ?_;refine cC rfl (fun h10 => ?_) (fun h10 => ?_)
   ·
    have f10 := h10;try simp only [bl] at f10
    refine sR ?_;refine oV ?_;refine oN (tC (cT (qd (tR (qd (tR ?_))))));refine ret1 rfl rfl ?_;refine qg (congrArg Value.bool ?_)
    unfold v7
    dsimp only
    (try rw [show ve false [] [] = true from rfl]
     generalize yf neg A B = K at *
     generalize ve neg A B = Z at *
     repeat (first | rw [if_pos (by omega)] | rw [if_neg (by omega)])
     try rw [Bool.eq_iff_iff]
     (cases K <;> cases Z <;> simp_all <;> omega))
   have f10 := h10;try simp only [bl] at f10
   refine cK (qe (tC (cS (sR ?_))));refine oF 4 underlying53 sizeOf48 ?_;refine oA isAgg48 sizeOf48 ?_;refine yy trivial rfl call88 rfl (qbl neg va vb A B ha hb) ?_;refine' oY (fun hb36 => ?_) ?_;rotate_left
   ·
    have fb36 := hb36
    try simp only [bl] at fb36
    refine gF hb36 3 underlying53 sizeOf3 ?_;refine gL hb36 isAgg3 ?_;refine gV hb36 ?_;refine oN ?_;exact qa rfl
   refine' oY (fun hb41 => ?_) ?_;rotate_left
   ·
    have fb41 := hb41
    try simp only [bl] at fb41
    refine gF hb41 3 underlying53 sizeOf3 ?_;refine gL hb41 isAgg3 ?_;refine gV hb41 ?_;refine oN ?_;exact qa rfl
   refine' oY (fun hb46 => ?_) ?_;rotate_left
   ·
    have fb46 := hb46
    try simp only [bl] at fb46
    refine gF hb46 0 underlying53 sizeOf3 ?_;refine gL hb46 isAgg3 ?_;refine gV hb46 ?_;refine' o_or (wS rfl rfl hb46) (wS rfl rfl hb46) rfl rfl rfl rfl rfl rfl rfl rfl (fun hb50 => ?_) ?_;rotate_left
    ·
     have fb50 := hb50
     try simp only [bl] at fb50
     refine gF hb50 2 underlying53 sizeOf3 ?_;refine gL hb50 isAgg3 ?_;refine gV hb50 ?_;refine oN ?_;exact qa rfl
    refine oN ?_;exact qa rfl
   refine oV ?_;refine oN (tC (cT (tR (qd (tR ?_)))));refine ret1 rfl rfl ?_;refine qg (congrArg Value.bool ?_)
   unfold v7
   dsimp only
   (try rw [show ve false [] [] = true from rfl]
    generalize yf neg A B = K at *
    generalize ve neg A B = Z at *
    repeat (first | rw [if_pos (by omega)] | rw [if_neg (by omega)])
    try rw [Bool.eq_iff_iff]
    (cases K <;> cases Z <;> simp_all <;> omega))
  have f6 := h6;try simp only [bl] at f6
  refine kS ?_;iterate 2 refine oV ?_
  refine nT ?_;refine cC rfl (fun h7 => ?_) (fun h7 => ?_)
  ·
   have f7 := h7;try simp only [bl] at f7
   refine qq (qc (ye rfl (qc (ye rfl (qc (ye rfl (qc (qp rfl (tC (cS (sR ?_)))))))))));refine oF 4 underlying53 sizeOf48 ?_;refine oA isAgg48 sizeOf48 ?_;refine yy trivial rfl call88 rfl (qbl neg va vb A B ha hb) ?_;refine' oY (fun hb36 => ?_) ?_;rotate_left
   ·
    have fb36 := hb36
    try simp only [bl] at fb36
    refine gF hb36 3 underlying53 sizeOf3 ?_;refine gL hb36 isAgg3 ?_;refine gV hb36 ?_;refine oN ?_;exact qa rfl
   refine' oY (fun hb41 => ?_) ?_;rotate_left
   ·
    have fb41 := hb41
    try simp only [bl] at fb41
    refine gF hb41 3 underlying53 sizeOf3 ?_;refine gL hb41 isAgg3 ?_;refine gV hb41 ?_;refine oN ?_;exact qa rfl
   refine' oY (fun hb46 => ?_) ?_;rotate_left
   ·
    have fb46 := hb46
    try simp only [bl] at fb46
    refine gF hb46 0 underlying53 sizeOf3 ?_;refine gL hb46 isAgg3 ?_;refine gV hb46 ?_;refine' o_or (wS rfl rfl hb46) (wS rfl rfl hb46) rfl rfl rfl rfl rfl rfl rfl rfl (fun hb50 => ?_) ?_;rotate_left
    ·
     have fb50 := hb50
     try simp only [bl] at fb50
     refine gF hb50 2 underlying53 sizeOf3 ?_;refine gL hb50 isAgg3 ?_;refine gV hb50 ?_;refine oN ?_;exact qa rfl
    refine oN ?_;exact qa rfl
   refine oV ?_;refine oN (tC (cT (tR (qd (tR ?_)))));refine ret1 rfl rfl ?_;refine qg (congrArg Value.bool ?_)
   unfold v7
   dsimp only
   (exfalso; omega)
  have f7 := h7;try simp only [bl] at f7
  refine cK (tC (qq (ye rfl (qc (ye rfl (qc (ye rfl (qc (ye rfl (qc (qp rfl (tC (sR ?_)))))))))))));refine oV ?_;refine nE ?_;refine ret1 rfl rfl ?_;refine qg (congrArg Value.bool ?_)
  unfold v7
  dsimp only
  (exfalso; omega)
 have f5 := h5;try simp only [bl] at f5
 refine cR ?_;iterate 2 refine oV ?_
 refine nT ?_;refine cC rfl (fun h6 => ?_) (fun h6 => ?_)
 ·
  have f6 := h6;try simp only [bl] at f6
  refine qq (qc (qc (ye rfl (qc (ye rfl (qc (qp rfl (tC (sR ?_)))))))));refine oF 3 underlying53 sizeOf3 ?_;refine oL isAgg3 ?_;refine oV ?_;refine nT ?_;refine cC rfl (fun h10 => ?_) (fun h10 => ?_)
  ·
   have f10 := h10;try simp only [bl] at f10
   refine sR ?_;refine oV ?_;refine oN (tC (cT (qd (tR (qd (tR ?_))))));refine ret1 rfl rfl ?_;refine qg (congrArg Value.bool ?_)
   unfold v7
   dsimp only
   (try rw [show ve false [] [] = true from rfl]
    generalize yf neg A B = K at *
    generalize ve neg A B = Z at *
    repeat (first | rw [if_pos (by omega)] | rw [if_neg (by omega)])
    try rw [Bool.eq_iff_iff]
    (cases K <;> cases Z <;> simp_all <;> omega))
  have f10 := h10;try simp only [bl] at f10
  refine cK (qe (tC (cS (sR ?_))));refine oF 4 underlying53 sizeOf48 ?_;refine oA isAgg48 sizeOf48 ?_;refine yy trivial rfl call88 rfl (qbl neg va vb A B ha hb) ?_;refine' oY (fun hb36 => ?_) ?_;rotate_left
  ·
   have fb36 := hb36
   try simp only [bl] at fb36
   refine gF hb36 3 underlying53 sizeOf3 ?_;refine gL hb36 isAgg3 ?_;refine gV hb36 ?_;refine oN ?_;exact qa rfl
  refine' oY (fun hb41 => ?_) ?_;rotate_left
  ·
   have fb41 := hb41
   try simp only [bl] at fb41
   refine gF hb41 3 underlying53 sizeOf3 ?_;refine gL hb41 isAgg3 ?_;refine gV hb41 ?_;refine oN ?_;exact qa rfl
  refine' oY (fun hb46 => ?_) ?_;rotate_left
  ·
   have fb46 := hb46
   try simp only [bl] at fb46
   refine gF hb46 0 underlying53 sizeOf3 ?_;refine gL hb46 isAgg3 ?_;refine gV hb46 ?_;refine' o_or (wS rfl rfl hb46) (wS rfl rfl hb46) rfl rfl rfl rfl rfl rfl rfl rfl (fun hb50 => ?_) ?_;rotate_left
   ·
    have fb50 := hb50
    try simp only [bl] at fb50
    refine gF hb50 2 underlying53 sizeOf3 ?_;refine gL hb50 isAgg3 ?_;refine gV hb50 ?_;refine oN ?_;exact qa rfl
   refine oN ?_;exact qa rfl
  refine oV ?_;refine oN (tC (cT (tR (qd (tR ?_)))));refine ret1 rfl rfl ?_;refine qg (congrArg Value.bool ?_)
  unfold v7
  dsimp only
  (try rw [show ve false [] [] = true from rfl]
   generalize yf neg A B = K at *
   generalize ve neg A B = Z at *
   repeat (first | rw [if_pos (by omega)] | rw [if_neg (by omega)])
   try rw [Bool.eq_iff_iff]
   (cases K <;> cases Z <;> simp_all <;> omega))
 have f6 := h6;try simp only [bl] at f6
 refine kS ?_;iterate 2 refine oV ?_
 refine nT ?_;refine cC rfl (fun h7 => ?_) (fun h7 => ?_)
 ·
  have f7 := h7;try simp only [bl] at f7
  refine qq (qc (ye rfl (qc (ye rfl (qc (ye rfl (qc (qp rfl (tC (cS (sR ?_)))))))))));refine oF 4 underlying53 sizeOf48 ?_;refine oA isAgg48 sizeOf48 ?_;refine yy trivial rfl call88 rfl (qbl neg va vb A B ha hb) ?_;refine' oY (fun hb36 => ?_) ?_;rotate_left
  ·
   have fb36 := hb36
   try simp only [bl] at fb36
   refine gF hb36 3 underlying53 sizeOf3 ?_;refine gL hb36 isAgg3 ?_;refine gV hb36 ?_;refine oN ?_;exact qa rfl
  refine' oY (fun hb41 => ?_) ?_;rotate_left
  ·
   have fb41 := hb41
   try simp only [bl] at fb41
   refine gF hb41 3 underlying53 sizeOf3 ?_;refine gL hb41 isAgg3 ?_;refine gV hb41 ?_;refine oN ?_;exact qa rfl
  refine' oY (fun hb46 => ?_) ?_;rotate_left
  ·
   have fb46 := hb46
   try simp only [bl] at fb46
   refine gF hb46 0 underlying53 sizeOf3 ?_;refine gL hb46 isAgg3 ?_;refine gV hb46 ?_;refine' o_or (wS rfl rfl hb46) (wS rfl rfl hb46) rfl rfl rfl rfl rfl rfl rfl rfl (fun hb50 => ?_) ?_;rotate_left
   ·
    have fb50 := hb50
    try simp only [bl] at fb50
    refine gF hb50 2 underlying53 sizeOf3 ?_;refine gL hb50 isAgg3 ?_;refine gV hb50 ?_;refine oN ?_;exact qa rfl
   refine oN ?_;exact qa rfl
  refine oV ?_;refine oN (tC (cT (tR (qd (tR ?_)))));refine ret1 rfl rfl ?_;refine qg (congrArg Value.bool ?_)
  unfold v7
  dsimp only
  (try rw [show ve false [] [] = true from rfl]
   generalize yf neg A B = K at *
   generalize ve neg A B = Z at *
   repeat (first | rw [if_pos (by omega)] | rw [if_neg (by omega)])
   try rw [Bool.eq_iff_iff]
   (cases K <;> cases Z <;> simp_all <;> omega))
 have f7 := h7;try simp only [bl] at f7
 refine cK (tC (qq (ye rfl (qc (ye rfl (qc (ye rfl (qc (ye rfl (qc (qp rfl (tC (sR ?_)))))))))))));refine oV ?_;refine nE ?_;refine ret1 rfl rfl ?_;refine qg (congrArg Value.bool ?_)
 unfold v7
 dsimp only
 first
   | (exfalso; omega)
   | (try rw [show ve false [] [] = true from rfl]
      generalize yf neg A B = K at *
      generalize ve neg A B = Z at *
      repeat (rw [if_neg (by omega)])
      try rw [Bool.eq_iff_iff]
      done)
def wgtM (o : OpC) (l : List Nat) : Nat := if 2 ≤ o.code ∧ o.code ≤ 5 then l.getD o.a.toNat 0 + l.getD o.b.toNat 0 else if o.code = 7 then l.getD o.a.toNat 0 * max 1 o.e.natAbs else l.getD o.a.toNat 0
def wgt (o : OpC) (l : List Nat) : Option Nat :=
 if o.code = 1 then some 1
 else if o.a < 0 ∨ (l.length : Int) ≤ o.a ∨ o.b < 0 ∨ (l.length : Int) ≤ o.b then none
 else if wgtM o l ≤ 200 then some (wgtM o l) else none
def nvs (l : List Nat) : List Value := l.map fun (x : Nat) => Value.int .i64 (x : Int)
theorem qbm {l : List Nat} {i : Nat} (h : i < l.length) : (nvs l)[i]? = some (.int .i64 ((l.getD i 0 : Nat) : Int)) := by
 unfold nvs; rw [List.getElem?_map,List.getD_eq_getElem?_getD,List.getElem?_eq_getElem h]; rfl
theorem qed {l : List Nat} {k : Nat} (h : ∀ x ∈ l,x ≤ k) (i : Nat) : l.getD i 0 ≤ k := by
 rw [List.getD_eq_getElem?_getD]
 cases hi : l[i]? with
 | none => exact Nat.zero_le _
 | some x => exact h x (List.mem_of_getElem? hi)
def wgtR (o : OpC) (l : List Nat) (v : Value) : Prop := ∃ m : Int,v = .tuple #[.int .i64 m,.bool (wgt o l).isSome] ∧ ∀ k,wgt o l = some k → m = k
theorem qee {o : OpC} {l : List Nat} {M : Nat} {m : Int} (e : wgt o l = if M ≤ 200 then some M else none) (hm : m = M) : wgtR o l (.tuple #[.int .i64 m,.bool (decide (m ≤ 200))]) := by
 refine ⟨m,?_,fun k hk => ?_⟩
 · rw [e]
   by_cases h : M ≤ 200
   · rw [if_pos h,decide_eq_true (by omega)]; rfl
   · rw [if_neg h,decide_eq_false (by omega)]; rfl
 · rw [e] at hk
   split at hk
   · cases hk; exact hm
   · cases hk
theorem qwp {o : OpC} {l : List Nat} {m : Int} (e : wgt o l = none) : wgtR o l (.tuple #[.int .i64 m,.bool false]) := ⟨m,by rw [e]; rfl,fun k hk => by rw [e] at hk; cases hk⟩
theorem qwq (code a b e : Int) (neg : Bool) (va vb u : Value) (A B : List Nat) (l : List Nat) {I : Hp} (ha : Ws I va A) (hb : Ws I vb B) (he : code = 7 → -20 ≤ e ∧ e ≤ 20) (hl : l.length ≤ 1000000) (hl2 : ∀ x ∈ l, x ≤ 200) : Fun prog 62 [.agg #[.int .i64 code, .int .i64 a, .int .i64 b, .int .i64 e, .bool neg, va, vb], u] I [.row u 3 1 l.length (nvs l)]
   (fun v I' B' => I = I' ∧ B' = [.row u 3 1 l.length (nvs l)] ∧ wgtR ⟨code,a,b,e,neg,A,B⟩ l v) := by
 have ga := qed hl2 a.toNat
 have gb := qed hl2 b.toNat
 intro w hw
 refine qv _ func62 rfl ntmps62 rfl ?_ hw;refine sR ?_;refine qo trivial rfl rfl rfl (fun b2 => ?_);iterate 2 refine oV ?_
 refine nU ?_;refine oF 0 underlying53 sizeOf3 ?_;refine oL isAgg3 ?_;refine oV ?_;refine nT ?_;refine cC rfl (fun h1 => ?_) (fun h1 => ?_)
 ·
  have f1 := h1;try simp only [bl] at f1
  refine sR ?_;iterate 2 refine oV ?_
  refine nF ?_;refine ret2 rfl rfl rfl ?_;refine leaf (Ext.refl _ _) (List.sublist_cons_self _ _) ⟨rfl,rfl,1,?_,fun k hk => ?_⟩
  · unfold wgt wgtM; dsimp only; rw [if_pos f1]; rfl
  · unfold wgt at hk; dsimp only at hk; rw [if_pos f1] at hk; cases hk; rfl
 have f1 := h1;try simp only [bl] at f1
 refine cK (tC (cS (sR ?_)));refine oF 1 underlying53 sizeOf3 ?_;refine oL isAgg3 ?_;refine oV ?_;refine' oZ (fun hb13 => ?_) ?_;rotate_left
 ·
  have fb13 := hb13
  try simp only [bl] at fb13
  refine gF hb13 1 underlying53 sizeOf3 ?_;refine gL hb13 isAgg3 ?_;refine gV hb13 ?_;refine yi (wS rfl rfl hb13) rfl underlying32 rfl (by repeat constructor) ?_;refine gV hb13 ?_;refine oN ?_;exact qa rfl
 refine' oZ (fun hb20 => ?_) ?_;rotate_left
 ·
  have fb20 := hb20
  try simp only [bl] at fb20
  refine gF hb20 2 underlying53 sizeOf3 ?_;refine gL hb20 isAgg3 ?_;refine gV hb20 ?_;refine oN ?_;exact qa rfl
 refine' oZ (fun hb25 => ?_) ?_;rotate_left
 ·
  have fb25 := hb25
  try simp only [bl] at fb25
  refine gF hb25 2 underlying53 sizeOf3 ?_;refine gL hb25 isAgg3 ?_;refine gV hb25 ?_;refine yi (wS rfl rfl hb25) rfl underlying32 rfl (by repeat constructor) ?_;refine gV hb25 ?_;refine oN ?_;exact qa rfl
 refine nT ?_;refine cC rfl (fun h2 => ?_) (fun h2 => ?_)
 ·
  have f2 := h2;try simp only [bl] at f2
  refine sR ?_;iterate 2 refine oV ?_
  refine nF ?_;refine ret2 rfl rfl rfl ?_;refine leaf (Ext.refl _ _) (List.sublist_cons_self _ _) ⟨rfl,rfl,qwp ?_⟩
  unfold wgt wgtM; dsimp only; rw [if_neg f1,if_pos (by omega)]
 have f2 := h2;try simp only [bl] at f2
 refine kS ?_;refine oV ?_;refine oF 1 underlying53 sizeOf3 ?_;refine oL isAgg3 ?_;refine yp trivial rfl underlying32 sizeOf3 rfl (by repeat constructor) rfl (by omega) ?_;refine jl trivial rfl isAgg3 (by repeat constructor) rfl (by rw [Nat.mul_one]; exact qbm (by omega)) ?_;refine oV ?_;refine nU ?_;refine oF 0 underlying53 sizeOf3 ?_;refine oL isAgg3 ?_;refine oN (tC (cB (cS (sR ?_))));iterate 2 refine oV ?_
 refine nT ?_;refine cC rfl (fun h3 => ?_) (fun h3 => ?_)
 ·
  have f3 := h3;try simp only [bl] at f3
  refine cK (tC ?_);refine cC rfl (fun h6 => ?_) (fun h6 => ?_)
  ·
   have f6 := h6;try simp only [bl] at f6
   refine cR ?_;iterate 2 refine oV ?_
   refine oF 2 underlying53 sizeOf3 ?_;refine oL isAgg3 ?_;refine yp trivial rfl underlying32 sizeOf3 rfl (by repeat constructor) rfl (by omega) ?_;refine jl trivial rfl isAgg3 (by repeat constructor) rfl (by rw [Nat.mul_one]; exact qbm (by omega)) ?_
   (refine qf trivial rfl rfl rfl ?_ ?_; (omega))
   refine oV ?_;refine oN (qe (tC (sR ?_)));iterate 5 refine oV ?_
   refine nE ?_;refine ret2 rfl rfl rfl ?_
   have n2 : ¬ (a < 0 ∨ (l.length : Int) ≤ a ∨ b < 0 ∨ (l.length : Int) ≤ b) := by omega
   have hmx : max (1 : Int) (e.natAbs : Nat) = ((max 1 e.natAbs : Nat) : Int) := by omega
   refine leaf (Ext.refl _ _) (List.sublist_cons_self _ _) ⟨rfl,rfl,?_⟩
   (have n3 : 2 ≤ code ∧ code ≤ 5 := by omega
    refine qee (M := l.getD a.toNat 0 + l.getD b.toNat 0) ?_ (by omega)
    unfold wgt wgtM; dsimp only; rw [if_neg f1,if_neg n2,if_pos n3])
  have f6 := h6;try simp only [bl] at f6
  refine sR ?_;iterate 2 refine oV ?_
  refine nT ?_;refine cC rfl (fun h7 => ?_) (fun h7 => ?_)
  ·
   have f7 := h7;try simp only [bl] at f7
   have he' := he f7
   refine cR ?_;refine oV ?_;refine oF 3 underlying53 sizeOf3 ?_;refine oL isAgg3 ?_;refine oQ call89 rfl (qhc e (by omega)) ?_;refine zq trivial rfl rfl rfl ?_
   (refine zi trivial rfl rfl rfl ?_ ?_; (omega))
   refine oV ?_;refine oN (qe (tC (sR ?_)));iterate 5 refine oV ?_
   refine nE ?_;refine ret2 rfl rfl rfl ?_
   have n2 : ¬ (a < 0 ∨ (l.length : Int) ≤ a ∨ b < 0 ∨ (l.length : Int) ≤ b) := by omega
   have hmx : max (1 : Int) (e.natAbs : Nat) = ((max 1 e.natAbs : Nat) : Int) := by omega
   refine leaf (Ext.refl _ _) (List.sublist_cons_self _ _) ⟨rfl,rfl,?_⟩
   (exfalso; omega)
  have f7 := h7;try simp only [bl] at f7
  refine cK (qe (tC (sR ?_)));iterate 5 refine oV ?_
  refine nE ?_;refine ret2 rfl rfl rfl ?_
  have n2 : ¬ (a < 0 ∨ (l.length : Int) ≤ a ∨ b < 0 ∨ (l.length : Int) ≤ b) := by omega
  have hmx : max (1 : Int) (e.natAbs : Nat) = ((max 1 e.natAbs : Nat) : Int) := by omega
  refine leaf (Ext.refl _ _) (List.sublist_cons_self _ _) ⟨rfl,rfl,?_⟩
  (exfalso; omega)
 have f3 := h3;try simp only [bl] at f3
 refine sR ?_;iterate 2 refine oV ?_
 refine nT ?_;refine cC rfl (fun h4 => ?_) (fun h4 => ?_)
 ·
  have f4 := h4;try simp only [bl] at f4
  refine cK (tC ?_);refine cC rfl (fun h6 => ?_) (fun h6 => ?_)
  ·
   have f6 := h6;try simp only [bl] at f6
   refine cR ?_;iterate 2 refine oV ?_
   refine oF 2 underlying53 sizeOf3 ?_;refine oL isAgg3 ?_;refine yp trivial rfl underlying32 sizeOf3 rfl (by repeat constructor) rfl (by omega) ?_;refine jl trivial rfl isAgg3 (by repeat constructor) rfl (by rw [Nat.mul_one]; exact qbm (by omega)) ?_
   (refine qf trivial rfl rfl rfl ?_ ?_; (omega))
   refine oV ?_;refine oN (qe (tC (sR ?_)));iterate 5 refine oV ?_
   refine nE ?_;refine ret2 rfl rfl rfl ?_
   have n2 : ¬ (a < 0 ∨ (l.length : Int) ≤ a ∨ b < 0 ∨ (l.length : Int) ≤ b) := by omega
   have hmx : max (1 : Int) (e.natAbs : Nat) = ((max 1 e.natAbs : Nat) : Int) := by omega
   refine leaf (Ext.refl _ _) (List.sublist_cons_self _ _) ⟨rfl,rfl,?_⟩
   (have n3 : 2 ≤ code ∧ code ≤ 5 := by omega
    refine qee (M := l.getD a.toNat 0 + l.getD b.toNat 0) ?_ (by omega)
    unfold wgt wgtM; dsimp only; rw [if_neg f1,if_neg n2,if_pos n3])
  have f6 := h6;try simp only [bl] at f6
  refine sR ?_;iterate 2 refine oV ?_
  refine nT ?_;refine cC rfl (fun h7 => ?_) (fun h7 => ?_)
  ·
   have f7 := h7;try simp only [bl] at f7
   have he' := he f7
   refine cR ?_;refine oV ?_;refine oF 3 underlying53 sizeOf3 ?_;refine oL isAgg3 ?_;refine oQ call89 rfl (qhc e (by omega)) ?_;refine zq trivial rfl rfl rfl ?_
   (refine zi trivial rfl rfl rfl ?_ ?_; (omega))
   refine oV ?_;refine oN (qe (tC (sR ?_)));iterate 5 refine oV ?_
   refine nE ?_;refine ret2 rfl rfl rfl ?_
   have n2 : ¬ (a < 0 ∨ (l.length : Int) ≤ a ∨ b < 0 ∨ (l.length : Int) ≤ b) := by omega
   have hmx : max (1 : Int) (e.natAbs : Nat) = ((max 1 e.natAbs : Nat) : Int) := by omega
   refine leaf (Ext.refl _ _) (List.sublist_cons_self _ _) ⟨rfl,rfl,?_⟩
   (exfalso; omega)
  have f7 := h7;try simp only [bl] at f7
  refine cK (qe (tC (sR ?_)));iterate 5 refine oV ?_
  refine nE ?_;refine ret2 rfl rfl rfl ?_
  have n2 : ¬ (a < 0 ∨ (l.length : Int) ≤ a ∨ b < 0 ∨ (l.length : Int) ≤ b) := by omega
  have hmx : max (1 : Int) (e.natAbs : Nat) = ((max 1 e.natAbs : Nat) : Int) := by omega
  refine leaf (Ext.refl _ _) (List.sublist_cons_self _ _) ⟨rfl,rfl,?_⟩
  (exfalso; omega)
 have f4 := h4;try simp only [bl] at f4
 refine sR ?_;iterate 2 refine oV ?_
 refine nT ?_;refine cC rfl (fun h5 => ?_) (fun h5 => ?_)
 ·
  have f5 := h5;try simp only [bl] at f5
  refine cK (tC ?_);refine cC rfl (fun h6 => ?_) (fun h6 => ?_)
  ·
   have f6 := h6;try simp only [bl] at f6
   refine cR ?_;iterate 2 refine oV ?_
   refine oF 2 underlying53 sizeOf3 ?_;refine oL isAgg3 ?_;refine yp trivial rfl underlying32 sizeOf3 rfl (by repeat constructor) rfl (by omega) ?_;refine jl trivial rfl isAgg3 (by repeat constructor) rfl (by rw [Nat.mul_one]; exact qbm (by omega)) ?_
   (refine qf trivial rfl rfl rfl ?_ ?_; (omega))
   refine oV ?_;refine oN (qe (tC (sR ?_)));iterate 5 refine oV ?_
   refine nE ?_;refine ret2 rfl rfl rfl ?_
   have n2 : ¬ (a < 0 ∨ (l.length : Int) ≤ a ∨ b < 0 ∨ (l.length : Int) ≤ b) := by omega
   have hmx : max (1 : Int) (e.natAbs : Nat) = ((max 1 e.natAbs : Nat) : Int) := by omega
   refine leaf (Ext.refl _ _) (List.sublist_cons_self _ _) ⟨rfl,rfl,?_⟩
   (have n3 : 2 ≤ code ∧ code ≤ 5 := by omega
    refine qee (M := l.getD a.toNat 0 + l.getD b.toNat 0) ?_ (by omega)
    unfold wgt wgtM; dsimp only; rw [if_neg f1,if_neg n2,if_pos n3])
  have f6 := h6;try simp only [bl] at f6
  refine sR ?_;iterate 2 refine oV ?_
  refine nT ?_;refine cC rfl (fun h7 => ?_) (fun h7 => ?_)
  ·
   have f7 := h7;try simp only [bl] at f7
   have he' := he f7
   refine cR ?_;refine oV ?_;refine oF 3 underlying53 sizeOf3 ?_;refine oL isAgg3 ?_;refine oQ call89 rfl (qhc e (by omega)) ?_;refine zq trivial rfl rfl rfl ?_
   (refine zi trivial rfl rfl rfl ?_ ?_; (omega))
   refine oV ?_;refine oN (qe (tC (sR ?_)));iterate 5 refine oV ?_
   refine nE ?_;refine ret2 rfl rfl rfl ?_
   have n2 : ¬ (a < 0 ∨ (l.length : Int) ≤ a ∨ b < 0 ∨ (l.length : Int) ≤ b) := by omega
   have hmx : max (1 : Int) (e.natAbs : Nat) = ((max 1 e.natAbs : Nat) : Int) := by omega
   refine leaf (Ext.refl _ _) (List.sublist_cons_self _ _) ⟨rfl,rfl,?_⟩
   (exfalso; omega)
  have f7 := h7;try simp only [bl] at f7
  refine cK (qe (tC (sR ?_)));iterate 5 refine oV ?_
  refine nE ?_;refine ret2 rfl rfl rfl ?_
  have n2 : ¬ (a < 0 ∨ (l.length : Int) ≤ a ∨ b < 0 ∨ (l.length : Int) ≤ b) := by omega
  have hmx : max (1 : Int) (e.natAbs : Nat) = ((max 1 e.natAbs : Nat) : Int) := by omega
  refine leaf (Ext.refl _ _) (List.sublist_cons_self _ _) ⟨rfl,rfl,?_⟩
  (exfalso; omega)
 have f5 := h5;try simp only [bl] at f5
 refine cR ?_;iterate 2 refine oV ?_
 refine nT ?_;refine cC rfl (fun h6 => ?_) (fun h6 => ?_)
 ·
  have f6 := h6;try simp only [bl] at f6
  refine cR ?_;iterate 2 refine oV ?_
  refine oF 2 underlying53 sizeOf3 ?_;refine oL isAgg3 ?_;refine yp trivial rfl underlying32 sizeOf3 rfl (by repeat constructor) rfl (by omega) ?_;refine jl trivial rfl isAgg3 (by repeat constructor) rfl (by rw [Nat.mul_one]; exact qbm (by omega)) ?_
  (refine qf trivial rfl rfl rfl ?_ ?_; (omega))
  refine oV ?_;refine oN (qe (tC (sR ?_)));iterate 5 refine oV ?_
  refine nE ?_;refine ret2 rfl rfl rfl ?_
  have n2 : ¬ (a < 0 ∨ (l.length : Int) ≤ a ∨ b < 0 ∨ (l.length : Int) ≤ b) := by omega
  have hmx : max (1 : Int) (e.natAbs : Nat) = ((max 1 e.natAbs : Nat) : Int) := by omega
  refine leaf (Ext.refl _ _) (List.sublist_cons_self _ _) ⟨rfl,rfl,?_⟩
  (have n3 : 2 ≤ code ∧ code ≤ 5 := by omega
   refine qee (M := l.getD a.toNat 0 + l.getD b.toNat 0) ?_ (by omega)
   unfold wgt wgtM; dsimp only; rw [if_neg f1,if_neg n2,if_pos n3])
 have f6 := h6;try simp only [bl] at f6
 refine sR ?_;iterate 2 refine oV ?_
 refine nT ?_;refine cC rfl (fun h7 => ?_) (fun h7 => ?_)
 ·
  have f7 := h7;try simp only [bl] at f7
  have he' := he f7
  refine cR ?_;refine oV ?_;refine oF 3 underlying53 sizeOf3 ?_;refine oL isAgg3 ?_;refine oQ call89 rfl (qhc e (by omega)) ?_;refine zq trivial rfl rfl rfl ?_;refine oV ?_;refine oV ?_;refine oN (qe (tC (sR ?_)));iterate 5 refine oV ?_
  refine nE ?_;refine ret2 rfl rfl rfl ?_
  have n2 : ¬ (a < 0 ∨ (l.length : Int) ≤ a ∨ b < 0 ∨ (l.length : Int) ≤ b) := by omega
  have hmx : max (1 : Int) (e.natAbs : Nat) = ((max 1 e.natAbs : Nat) : Int) := by omega
  refine leaf (Ext.refl _ _) (List.sublist_cons_self _ _) ⟨rfl,rfl,?_⟩
  (have n3 : ¬ (2 ≤ code ∧ code ≤ 5) := by omega
   have n4 : code = 7 := by omega
   have he' := he n4
   have hm20 : l.getD a.toNat 0 * max 1 e.natAbs ≤ 200 * 20 := Nat.mul_le_mul ga (by omega)
   have e9 : (l.getD a.toNat 0 : Int) * max 1 (e.natAbs : Int) = ((l.getD a.toNat 0 * max 1 e.natAbs : Nat) : Int) := by rw [Int.natCast_mul,hmx]
   rw [e9,IntWalk.i64_in _ (by omega)]
   refine qee (M := l.getD a.toNat 0 * max 1 e.natAbs) ?_ rfl
   unfold wgt wgtM; dsimp only; rw [if_neg f1,if_neg n2,if_neg n3,if_pos n4])
 have f7 := h7;try simp only [bl] at f7
 refine cK (qe (tC (sR ?_)));iterate 5 refine oV ?_
 refine nE ?_;refine ret2 rfl rfl rfl ?_
 have n2 : ¬ (a < 0 ∨ (l.length : Int) ≤ a ∨ b < 0 ∨ (l.length : Int) ≤ b) := by omega
 have hmx : max (1 : Int) (e.natAbs : Nat) = ((max 1 e.natAbs : Nat) : Int) := by omega
 refine leaf (Ext.refl _ _) (List.sublist_cons_self _ _) ⟨rfl,rfl,?_⟩
 (have n3 : ¬ (2 ≤ code ∧ code ≤ 5) := by omega
  have n4 : ¬ code = 7 := by omega
  refine qee (M := l.getD a.toNat 0) ?_ rfl
  unfold wgt wgtM; dsimp only; rw [if_neg f1,if_neg n2,if_neg n3,if_neg n4])
def wgts : List OpC → List Nat → Option (List Nat)
 | [],l => some l
 | o :: r,l => if v7 o then (match wgt o l with | some m => wgts r (l ++ [m]) | none => none) else none
def vw (t : yr) : Option (List Nat) :=
 if t.ins < 1 ∨ 40 < t.ins ∨ t.outs.length < 1 ∨ 40 < t.outs.length ∨ 400 < t.ops.length then none
 else match wgts t.ops (List.replicate t.ins.toNat 1) with
   | none => none
   | some l => if (t.outs.all fun z => decide (0 ≤ z ∧ z < l.length)) then some l else none
theorem qn6 {o : OpC} {l : List Nat} {m : Nat} (h : wgt o l = some m) : m ≤ 200 := by
 unfold wgt at h
 split at h
 · cases h; decide
 · split at h
   · cases h
   · split at h
     · cases h; assumption
     · cases h
theorem OpV.at_ {I : Hp} {vo vu : Value} {t : yr} {os : List OpV} (ht : ji I vo vu t os) {i : Nat} {o : OpV} (h : os[i]? = some o) : ∀ k y, ([.int .i64 o.c.code, .int .i64 o.c.a, .int .i64 o.c.b, .int .i64 o.c.e, .bool o.c.neg, o.vn, o.vd] : List Value)[k]? = some y → I.cell? ⟨slcB vo, slcO vo + i * 7 + k, none⟩ = some y :=
 ht.so.cells i _ (by rw [List.getElem?_map,h]; rfl)
theorem qn7 {ops : List OpC} {i : Nat} {o : OpC} (h : ops[i]? = some o) (l : List Nat) : wgts (ops.drop i) l = if v7 o then (match wgt o l with | some m => wgts (ops.drop (i + 1)) (l ++ [m]) | none => none) else none := by
 rw [List.drop_eq_getElem_cons (List.getElem?_eq_some_iff.1 h).1,(List.getElem?_eq_some_iff.1 h).2]; rfl
theorem qhd (l : List Nat) (m : Nat) : nvs l ++ [.int .i64 (m : Int)] = nvs (l ++ [m]) := by simp [nvs]
theorem qjp (l : List Nat) : ((l.map fun (x : Nat) => [Value.int .i64 (x : Int)])).flatten = nvs l := by
 induction l with
 | nil => rfl
 | cons x l ih => show [_] ++ _ = _; rw [ih]; rfl
theorem qn8 (k : Nat) : nvs (List.replicate k 1) ++ [.int .i64 1] = nvs (List.replicate (k + 1) 1) := by
 rw [List.replicate_succ',← qhd]; rfl
theorem qhe {I : Hp} {v : Value} {l : List Int} (h : Slc I 1 v (ics l)) {i : Nat} {z : Int} (hz : l[i]? = some z) : I.cell? ⟨slcB v, slcO v + i * 1, none⟩ = some (.int .i64 z) :=
 h.cells i _ (by unfold ics; rw [List.getElem?_map,hz]; rfl) 0 _ rfl
theorem qcm (l : List Int) : (ics l).length = l.length := by simp [ics]
theorem qn9 {o : OpC} (h : v7 o = true) (h7 : o.code = 7) : -20 ≤ o.e ∧ o.e ≤ 20 := by
 unfold v7 at h
 rw [if_neg (by omega),if_neg (by omega),if_neg (by omega),if_pos h7] at h
 simp only [Bool.and_eq_true,decide_eq_true_eq] at h
 exact h.2.2
theorem qwr (t : yr) (vo vu : Value) (os : List OpV) {I : Hp} (ht : ji I vo vu t os) (hf : ∀ o ∈ t.ops,OpC.few 2000000 o) : Fun prog 42 [.agg #[.int .i64 t.ins,vo,vu]] I [] (fun v I' _ => ∃ u,v = .tuple #[u,.bool (vw t).isSome] ∧ ∀ l,vw t = some l → Slc I' 1 u (l.map fun (x : Nat) => [.int .i64 (x : Int)])) := by
 have hol : os.length = t.ops.length := by rw [← ht.eq,List.length_map]
 have hoc : ∀ {i : Nat} {o : OpV},os[i]? = some o → t.ops[i]? = some o.c := fun {i o} h => by rw [← ht.eq,List.getElem?_map,h]; rfl
 have hso := ht.so
 have hsu := ht.su
 intro w hw
 refine q9 _ func42 rfl ntmps42 rfl ?_ hw;refine sR ?_;refine qo trivial rfl rfl rfl (fun b1 => ?_);iterate 2 refine oV ?_
 refine nU ?_;refine oF 0 underlying34 sizeOf3 ?_
 have hul := qcm t.outs
 have hml : (os.map OpV.cells).length = t.ops.length := by rw [List.length_map,hol]
 refine oL isAgg3 ?_;refine oV ?_;refine' oZ (fun hb14 => ?_) ?_;rotate_left
 ·
  have fb14 := hb14
  try simp only [bl] at fb14
  refine gF hb14 0 underlying34 sizeOf3 ?_;refine gL hb14 isAgg3 ?_;refine gV hb14 ?_;refine oN ?_;exact qa rfl
 refine' oZ (fun hb19 => ?_) ?_;rotate_left
 ·
  have fb19 := hb19
  try simp only [bl] at fb19
  refine gF hb19 2 underlying34 sizeOf32 ?_;refine gL hb19 isAgg32 ?_;refine qw (wS rfl rfl hb19) rfl underlying32 rfl (hsu) ?_;refine gV hb19 ?_;refine oN ?_;exact qa rfl
 refine' oZ (fun hb25 => ?_) ?_;rotate_left
 ·
  have fb25 := hb25
  try simp only [bl] at fb25
  refine gF hb25 2 underlying34 sizeOf32 ?_;refine gL hb25 isAgg32 ?_;refine qw (wS rfl rfl hb25) rfl underlying32 rfl (hsu) ?_;refine gV hb25 ?_;refine oN ?_;exact qa rfl
 refine' oZ (fun hb31 => ?_) ?_;rotate_left
 ·
  have fb31 := hb31
  try simp only [bl] at fb31
  refine gF hb31 1 underlying34 sizeOf31 ?_;refine gL hb31 isAgg31 ?_;refine qw (wS rfl rfl hb31) rfl underlying31 rfl (hso) ?_;refine gV hb31 ?_;refine oN ?_;exact qa rfl
 refine nT ?_;refine cC rfl (fun h1 => ?_) (fun h1 => ?_)
 ·
  have f1 := h1;try simp only [bl] at f1
  have hno : vw t = none := by unfold vw; rw [if_pos (by omega)]
  refine sR ?_;iterate 2 refine oV ?_
  refine nF ?_;refine ret2 rfl rfl rfl ?_;refine qg ⟨.slice none 0 0,by rw [hno]; rfl,fun l hl => by rw [hno] at hl; cases hl⟩
 have f1 := h1;try simp only [bl] at f1
 have hgd : ¬ (t.ins < 1 ∨ 40 < t.ins ∨ t.outs.length < 1 ∨ 40 < t.outs.length ∨ 400 < t.ops.length) := by omega
 refine kS ?_;refine oV ?_;refine nU ?_;refine oF 0 underlying34 sizeOf3 ?_;refine oL isAgg3 ?_;refine oV ?_;refine oN (tC (cB ?_));refine qu (ι := Nat × Value) [1,38] (.cons rfl (.cons rfl .nil)) (fun x => t.ins.toNat - x.1) (fun x E0 => (4,x.2) :: (39,.int .i64 (x.1 : Int)) :: E0) (fun x => St w [] I [.row x.2 3 1 x.1 (nvs (List.replicate x.1 1)),.box b1 (.cells ([.int .i64 t.ins,vo,vu] : List Value).toArray 34 (0,0))]) (fun x => x.1 ≤ t.ins.toNat) ((0,.slice none 0 0)) (sC rfl (sC rfl (sC rfl (sC rfl sN)))) (fun _ h => h.nilRow _ _) (Nat.zero_le _) ?_;rintro ⟨i,u⟩ hi
 try dsimp only
 simp only at hi
 refine sR ?_;refine oV ?_;refine oN (tC (cS ?_));refine cC rfl (fun h2 => ?_) (fun h2 => ?_)
 ·
  have f2 := h2;try simp only [bl] at f2
  refine cK (tC (cS (cB (cR ?_))));refine oV ?_;refine oB underlying32 sizeOf3 zeroValue3 fun b42 => ?_;refine oD underlying32 vp fun v43 => ?_;refine oV ?_;refine oN (qe (tC (cR ?_)))
  (refine qf trivial rfl rfl rfl ?_ ?_; (omega))
  refine oV ?_;refine oN ?_;exact qj (i + 1,v43) (sC rfl (sC rfl (sC rfl (sC rfl sN)))) (fun _ h => by rw [← qn8]; exact h.sort (by repeat constructor)) (by show t.ins.toNat - (i + 1) < t.ins.toNat - i; omega) (by show i + 1 ≤ _; omega)
 have f2 := h2;try simp only [bl] at f2
 refine qq (qc (qc (qp rfl (tC (cS (cS ?_))))))
 have hin : i = t.ins.toNat := by omega
 subst hin
 refine cR ?_;refine oF 1 underlying34 sizeOf31 ?_;refine oL isAgg31 ?_;refine qw trivial rfl underlying31 rfl (hso) ?_;refine oV ?_;refine oN (tC (cB ?_));refine qu (ι := Nat × List Nat × Value) [1,46,47] (.cons rfl (.cons rfl (.cons rfl .nil))) (fun x => t.ops.length - x.1) (fun x E0 => (4,x.2.2) :: (48,.int .i64 (x.1 : Int)) :: E0) (fun x => St w [] I [.row x.2.2 3 1 x.2.1.length (nvs x.2.1),.box b1 (.cells ([.int .i64 t.ins,vo,vu] : List Value).toArray 34 (0,0))]) (fun x => x.1 ≤ t.ops.length ∧ x.2.1.length = t.ins.toNat + x.1 ∧ (∀ y ∈ x.2.1,y ≤ 200) ∧ wgts t.ops (List.replicate t.ins.toNat 1) = wgts (t.ops.drop x.1) x.2.1) ((0,List.replicate t.ins.toNat 1,u)) (sC rfl (sC rfl (sC rfl (sC rfl (sC rfl sN))))) (fun _ h => by rw [List.length_replicate]; exact h) (⟨Nat.zero_le _,by rw [List.length_replicate]; rfl,fun y hy => by rw [(List.mem_replicate.1 hy).2]; decide,rfl⟩) ?_;rintro ⟨i,l,u⟩ ⟨hi,hll,hl2,hW⟩
 try dsimp only
 simp only at hi hll hl2 hW
 refine sR ?_;refine oV ?_;refine oN (tC (cS ?_));refine cC rfl (fun h3 => ?_) (fun h3 => ?_)
 ·
  have f3 := h3;try simp only [bl] at f3
  have hio : i < os.length := by omega
  obtain ⟨o,ho⟩ : ∃ o,os[i]? = some o := ⟨os[i],List.getElem?_eq_getElem hio⟩
  obtain ⟨hvn,hvd⟩ := ht.ok o (List.mem_of_getElem? ho)
  have hto := hoc ho
  have hfo := hf o.c (List.mem_of_getElem? hto)
  rw [qn7 hto] at hW
  refine cK (tC (cS (cB (sR ?_))));refine vk trivial rfl underlying31 sizeOf53 rfl (hso) rfl (by omega) ?_;refine y7 trivial rfl isAgg53 sizeOf53 rfl rfl (OpV.at_ ht ho) ?_;refine qh trivial rfl zeroValue53 rfl (fun b6 => ?_);refine oS sizeOf53 ?_;refine nU ?_;refine oA isAgg53 sizeOf53 ?_;refine oQ call61 rfl (qwo o.c.code o.c.a o.c.b o.c.e o.c.neg o.vn o.vd o.c.n o.c.d hvn hvd hfo.1 hfo.2) ?_;refine oV ?_;refine nT ?_;refine cC rfl (fun h4 => ?_) (fun h4 => ?_)
  ·
   have f4 := h4;try simp only [bl] at f4
   have f4' : v7 o.c = false := f4
   have hno : vw t = none := by unfold vw; rw [if_neg hgd,hW,f4']; rfl
   refine sR ?_;iterate 2 refine oV ?_
   refine oN (tC (cT (tR (qd (tR (tR (qd (tR ?_))))))));refine ret2 rfl rfl rfl ?_;refine leaf (Ext.refl _ _) (List.nil_sublist _) ⟨.slice none 0 0,by rw [hno]; rfl,fun l hl => by rw [hno] at hl; cases hl⟩
  have f4 := h4;try simp only [bl] at f4
  have f4' : v7 o.c = true := f4
  rw [if_pos f4'] at hW
  refine kS ?_;refine oA isAgg53 sizeOf53 ?_;refine oV ?_;refine oC trivial rfl call62 rfl (qwq o.c.code o.c.a o.c.b o.c.e o.c.neg o.vn o.vd u o.c.n o.c.d l hvn hvd (qn9 f4') (by omega) hl2) (by repeat constructor) ?_;rintro _ _ _ hx2 ⟨rfl,rfl,m,rfl,hm⟩;iterate 5 refine oV ?_
  refine nU ?_;iterate 2 refine oV ?_
  refine nT ?_;refine cC rfl (fun h5 => ?_) (fun h5 => ?_)
  ·
   have f5 := h5;try simp only [bl] at f5
   have hw5 : wgt o.c l = none := Option.not_isSome_iff_eq_none.1 (by rw [show (wgt o.c l).isSome = false from f5]; decide)
   have hno : vw t = none := by unfold vw; rw [if_neg hgd,hW,hw5]
   refine sR ?_;iterate 2 refine oV ?_
   refine oN (tC (cT (tR (qd (tR (tR (qd (tR ?_))))))));refine ret2 rfl rfl rfl ?_;refine leaf (Ext.refl _ _) (List.nil_sublist _) ⟨.slice none 0 0,by rw [hno]; rfl,fun l hl => by rw [hno] at hl; cases hl⟩
  have f5 := h5;try simp only [bl] at f5
  obtain ⟨k,hk⟩ := Option.isSome_iff_exists.1 (show (wgt o.c l).isSome = true from f5)
  rw [hk] at hW
  have hmk := hm k hk
  subst hmk
  refine cK (tC (cR ?_));iterate 2 refine oV ?_
  refine oB underlying32 sizeOf3 zeroValue3 fun b65 => ?_;refine oD underlying32 vp fun v66 => ?_;refine oV ?_;refine oN (qe (tC (cR ?_)))
  (refine qf trivial rfl rfl rfl ?_ ?_; (omega))
  refine oV ?_;refine oN ?_
  exact qj (i + 1, l ++ [k], v66) (sC rfl (sC rfl (sC rfl (sC rfl (sC rfl sN))))) (fun _ h => by rw [← qhd, List.length_append]; exact h.sort (by repeat constructor)) (by show t.ops.length - (i + 1) < t.ops.length - i; omega) ⟨by show i + 1 ≤ _; omega, by simp only [List.length_append, List.length_cons, List.length_nil]; omega, by
    intro y hy
    rcases List.mem_append.1 hy with hy | hy
    · exact hl2 y hy
    · rw [List.mem_singleton.1 hy]; exact qn6 hk,hW⟩
 have f3 := h3;try simp only [bl] at f3
 refine qq (qc (qc (qp rfl (tC (cS (cS ?_))))))
 have hio : i = t.ops.length := by omega
 subst hio
 rw [List.drop_length] at hW
 refine cR ?_;refine oF 2 underlying34 sizeOf32 ?_;refine oL isAgg32 ?_;refine qw trivial rfl underlying32 rfl (hsu) ?_;refine oV ?_;refine oN (tC (cB ?_));refine qu (ι := Nat) [4,69,70] (.cons rfl (.cons rfl (.cons rfl .nil))) (fun x => t.outs.length - x) (fun x E0 => (71,.int .i64 (x : Int)) :: E0) (fun x => St w [] I [.row u 3 1 l.length (nvs l),.box b1 (.cells ([.int .i64 t.ins,vo,vu] : List Value).toArray 34 (0,0))]) (fun x => x ≤ t.outs.length ∧ ((t.outs.take x).all fun z => decide (0 ≤ z ∧ z < l.length)) = true) (0) (sC rfl (sC rfl (sC rfl (sC rfl sN)))) (fun _ h => h) (⟨Nat.zero_le _,rfl⟩) ?_;rintro i ⟨hi,hall⟩
 try dsimp only
 refine sR ?_;refine oV ?_;refine oN (tC (cS ?_));refine cC rfl (fun h6 => ?_) (fun h6 => ?_)
 ·
  have f6 := h6;try simp only [bl] at f6
  have hio : i < t.outs.length := by omega
  obtain ⟨z,hz⟩ : ∃ z,t.outs[i]? = some z := ⟨t.outs[i],List.getElem?_eq_getElem hio⟩
  refine cK (tC (cS (cB (sR ?_))));refine vk trivial rfl underlying32 sizeOf3 rfl (hsu) rfl (by omega) ?_;refine q8 trivial rfl isAgg3 rfl (qhe hsu hz) ?_;refine oV ?_;refine nS ?_;iterate 2 refine oV ?_
  refine' oZ (fun hb77 => ?_) ?_;rotate_left
  ·
   have fb77 := hb77
   try simp only [bl] at fb77
   iterate 2 refine gV hb77 ?_
   refine yi (wS rfl rfl hb77) rfl underlying32 rfl (by repeat constructor) ?_;refine gV hb77 ?_;refine oN ?_;exact qa rfl
  refine nT ?_;refine cC rfl (fun h7 => ?_) (fun h7 => ?_)
  ·
   have f7 := h7;try simp only [bl] at f7
   have hno : vw t = none := by
     unfold vw; rw [if_neg hgd,hW]
     have hz9 : (t.outs.all fun z => decide (0 ≤ z ∧ z < l.length)) = false := by
       rw [List.all_eq_false]
       exact ⟨z,List.mem_of_getElem? hz,by simp; omega⟩
     show (if (t.outs.all fun z => decide (0 ≤ z ∧ z < l.length)) = true then some l else none) = none
     rw [hz9]; rfl
   refine sR ?_;iterate 2 refine oV ?_
   refine oN (tC (cT (qd (tR (tR (qd (tR ?_)))))));refine ret2 rfl rfl rfl ?_;refine leaf (Ext.refl _ _) (List.nil_sublist _) ⟨.slice none 0 0,by rw [hno]; rfl,fun l hl => by rw [hno] at hl; cases hl⟩
  have f7 := h7;try simp only [bl] at f7
  refine cK (qe (tC (cR ?_)))
  (refine qf trivial rfl rfl rfl ?_ ?_; (omega))
  refine oV ?_;refine oN ?_
  exact qj (i + 1) (sC rfl (sC rfl (sC rfl (sC rfl sN)))) (fun _ h => h) (by show t.outs.length - (i + 1) < t.outs.length - i; omega) ⟨by show i + 1 ≤ _; omega, by
    show ((t.outs.take (i + 1)).all _) = true
    rw [List.take_add_one,hz,List.all_append,hall]
    simp; omega⟩
 have f6 := h6;try simp only [bl] at f6
 refine qq (qc (qc (qp rfl (tC (cS ?_)))))
 have hio : i = t.outs.length := by omega
 subst hio
 rw [List.take_length] at hall
 have hyes : vw t = some l := by unfold vw; rw [if_neg hgd,hW]; show (if (t.outs.all fun z => decide (0 ≤ z ∧ z < l.length)) = true then some l else none) = some l; rw [hall]; rfl
 refine cR ?_;iterate 3 refine oV ?_
 refine nE ?_;refine ret2 rfl rfl rfl ?_;exact fun w' hw' => qit (e := 3) (size := 1) (nn := l.length) (u := u) (xss := l.map fun (x : Nat) => [Value.int .i64 (x : Int)]) (by simp) (by intro c hc; obtain ⟨x,_,rfl⟩ := List.mem_map.1 hc; rfl) (by unfold maxLen; omega) (fun I' hl hs' => ⟨u,by rw [hyes]; rfl,fun l' hl' => by rw [hyes] at hl'; cases hl'; exact hs'⟩) w' (by rw [qjp]; exact hw')
theorem qoa (t : yr) (vo vu : Value) (os : List OpV) {I : Hp} (ht : ji I vo vu t os) (hf : ∀ o ∈ t.ops,OpC.few 2000000 o) : Fun prog 28 [.agg #[.int .i64 t.ins,vo,vu]] I [] (fun v _ _ => v = .bool (vw t).isSome) := by
 have h1 := ht.so
 have h2 := ht.su
 intro w hw
 refine q9 _ func28 rfl ntmps28 rfl ?_ hw;refine sR ?_;refine qo trivial rfl rfl rfl (fun b1 => ?_);refine oV ?_;refine nS ?_;refine oA isAgg34 sizeOf34 ?_;refine oI call42 rfl (qwr t vo vu os ht hf) ?_;rintro _ I1 hx1 ⟨u,rfl,hs⟩;iterate 5 refine oV ?_
 refine nS ?_;iterate 2 refine oV ?_
 refine nE ?_;refine ret1 rfl rfl ?_;exact leaf hx1 (List.nil_sublist _) rfl
end Go.Proofs.YtoincnplajnpnaaGreat
