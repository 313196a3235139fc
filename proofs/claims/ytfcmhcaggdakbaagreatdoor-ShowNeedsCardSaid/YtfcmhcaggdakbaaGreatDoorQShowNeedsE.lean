/-
  ShowNeeds, part 5: the texts Value, Value2, Ref1, Ref2, Ref3, Ref4, Ref5, Ref7, Ref8, RefP, RefR, RefL, RefL2, RefL3, RefL4, RefL5, RefL6, Tree9, RefH, Ref8b, RefB, RefW, RefX, RefH2, Law11, RefW2, ShowR, Map, Map2, Scope, Scope2, Scope3, Ref13, SameG, Scope4, Ref13b, Law13, Tree11, Law12, Needs2, Law12n, Open, Open11 as one.
-/
import Derived.Test.YtfcmhcaggdakbaaGreatDoorQShowNeedsD
import Derived.Laws.Entries
import Derived.MapKept
import Derived.Deep.Slices
set_option linter.unusedVariables false
set_option linter.unusedSimpArgs false
set_option linter.unnecessarySimpa false
set_option maxHeartbeats 1000000
namespace Go.Tw
open Go
structure RV where
  q : Rat
  vn : Value
  vd : Value
def RV.cells (r : RV) : List Value := [.bool (decide (r.q.num < 0)), r.vn, r.vd]
def RV.ok (I : Hp) (r : RV) : Prop := Ws I r.vn (natW r.q.num.natAbs) ∧ Ws I r.vd (natW r.q.den)
theorem RV.ok.le {I I' : Hp} {r : RV} (h : r.ok I) (hl : I.Le I') : r.ok I' := ⟨h.1.le hl, h.2.le hl⟩
def rcs (rs : List RV) : List (List Value) := rs.map RV.cells
end Go.Tw
namespace Go.Proofs.YtfcmhcaggdakbaaGreatDoor
open Go Go.Tw
end Go.Proofs.YtfcmhcaggdakbaaGreatDoor
namespace Go.Tw
open Go
structure NV where
  neg : Bool
  n : List Nat
  d : List Nat
  vn : Value
  vd : Value
def NV.cells (x : NV) : List Value := [.bool x.neg, x.vn, x.vd]
def NV.ok (I : Hp) (x : NV) : Prop := Ws I x.vn x.n ∧ Ws I x.vd x.d
def NV.q (x : NV) : Rat := lowQ x.neg (val x.n) (val x.d)
theorem NV.ok.le {I I' : Hp} {r : NV} (h : r.ok I) (hl : I.Le I') : r.ok I' := ⟨h.1.le hl, h.2.le hl⟩
structure PtV (I : Hp) (v : Value) (xs : List NV) : Prop where
  s : Slc I 3 v (xs.map NV.cells)
  ok : ∀ x ∈ xs, x.ok I
theorem PtV.le {I I' : Hp} {v : Value} {xs : List NV} (h : PtV I v xs) (hl : I.Le I') : PtV I' v xs := ⟨h.s.le hl, fun o ho => (h.ok o ho).le hl⟩
theorem NV.at_ {I : Hp} {v : Value} {xs : List NV} (h : PtV I v xs) {i : Nat} {x : NV} (hx : xs[i]? = some x) : ∀ k y, ([.bool x.neg, x.vn, x.vd] : List Value)[k]? = some y → I.cell? ⟨slcB v, slcO v + i * 3 + k, none⟩ = some y :=
  h.s.cells i _ (by rw [List.getElem?_map, hx]; rfl)
structure RsV (I : Hp) (v : Value) (l : List Rat) : Prop where
  out : ∃ rs : List RV, Slc I 3 v (rcs rs) ∧ (∀ r ∈ rs, r.ok I) ∧ rs.map RV.q = l
theorem RsV.le {I I' : Hp} {v : Value} {l : List Rat} (h : RsV I v l) (hl : I.Le I') : RsV I' v l := let ⟨rs, h1, h2, h3⟩ := h.out; ⟨rs, h1.le hl, fun r hr => (h2 r hr).le hl, h3⟩
end Go.Tw
namespace Go.Proofs.YtfcmhcaggdakbaaGreatDoor
open Go Go.Tw
end Go.Proofs.YtfcmhcaggdakbaaGreatDoor
namespace Go.Tw
open Go Go.RowKit
theorem take_more {A : List Nat} {i : Nat} (h : i < A.length) : A.take (i + 1) = A.take i ++ [dg A i] := by
  rw [List.take_add_one, dg_some h]; rfl
theorem eq_of_dg {A B : List Nat} (hl : A.length = B.length) (h : ∀ j, j < A.length → dg A j = dg B j) : A = B := by
  refine List.ext_getElem hl fun i h1 h2 => ?_
  have := h i h1
  rwa [dg_in h1, dg_in h2] at this
theorem Wds.more {O : List Nat} (h : Wds O) {x : Nat} (hx : x < 4294967296) : Wds (O ++ [x]) := h.app (Wds_cons hx Wds_nil)
section
variable {P : Program} {Q : Exit → Act → World → Prop} {n : Nat} {D : List Deferred} {E : Env} {ops : Array Oper} {w0 : World} {I : Hp} {B B' : List Item}
end
end Go.Tw
namespace Go.Proofs.YtfcmhcaggdakbaaGreatDoor
open Go Go.Tw
theorem rWords_any (va vb : Value) (A B : List Nat) {I : Hp} (ha : Ws I va A) (hb : Ws I vb B) : Fun Tryz.prog 85 [va, vb] I [] (fun v _ _ => v = .bool (decide (A = B))) := by
  have hs := ha.most
  unfold maxLen at hs
  intro w hw
  refine enter2 _ Tryz.func85 rfl Tryz.ntmps85 rfl ?_ hw;refine sR ?_;refine oV ?_;refine nU ?_;refine oV ?_;refine o_lenW trivial rfl Tryz.underlying33 rfl (ha) ?_;refine oV ?_;refine o_lenW trivial rfl Tryz.underlying33 rfl (hb) ?_;refine oV ?_;refine nT ?_;refine cC rfl (fun h1 => ?_) (fun h1 => ?_)
  ·
   have f1 := h1;try simp only [bl] at f1
   refine sR ?_;refine oV ?_;refine nF ?_;refine ret1 rfl rfl ?_;refine leaf0 (congrArg Value.bool ?_); rw [decide_eq_false]; intro e; exact f1 (by rw [e])
  have f1 := h1;try simp only [bl] at f1
  refine cK (tC (cS (sR ?_)));refine oV ?_;refine oN (tC (cB ?_));refine c_loop (ι := Nat) [0, 1] (.cons rfl (.cons rfl .nil)) (fun i => A.length - i) (fun i E0 => (5, .int .i64 (i : Nat)) :: E0) (fun i => St w [] I []) (fun i => i ≤ A.length ∧ ∀ j, j < i → dg A j = dg B j) (0) (sC rfl (sC rfl (sC rfl sN))) (fun _ h => h) (⟨Nat.zero_le _, fun j h => absurd h (Nat.not_lt_zero _)⟩) ?_;rintro i ⟨hi, he⟩
  try dsimp only
  refine cS (sR ?_);iterate 2 refine oV ?_
  refine o_lenW trivial rfl Tryz.underlying33 rfl (ha) ?_;refine oV ?_;refine nT ?_;refine cC rfl (fun h2 => ?_) (fun h2 => ?_)
  ·
   have f2 := h2;try simp only [bl] at f2
   refine cK (tC (cS (cB (cS ?_))));refine c_quiet (by kernel_rfl) (by kernel_rfl) (fun _ h => h.drawn) ?_;iterate 2 refine oV ?_
   refine o_elemW trivial rfl Tryz.underlying33 Tryz.sizeOf134 rfl (ha) rfl (by omega) ?_;refine o_load1I trivial rfl Tryz.isAgg134 rfl (ha.cellI (k := i) rfl (by omega)) ?_;iterate 2 refine oV ?_
   refine o_elemW trivial rfl Tryz.underlying33 Tryz.sizeOf134 rfl (hb) rfl (by omega) ?_;refine o_load1I trivial rfl Tryz.isAgg134 rfl (hb.cellI (k := i) rfl (by omega)) ?_;refine oV ?_;refine nT ?_;refine cC rfl (fun h3 => ?_) (fun h3 => ?_)
   ·
    have f3 := h3;try simp only [bl] at f3
    refine sR ?_;refine oV ?_;refine oN (tC (cT (blk_r (tR (tR (blk_r (tR ?_)))))));refine ret1 rfl rfl ?_;refine leaf0 (congrArg Value.bool ?_); rw [decide_eq_false]; intro e; exact f3 (by rw [e])
   have f3 := h3;try simp only [bl] at f3
   refine cK (blk_n (tC (cR ?_)));refine oV ?_
   first | (refine o_add trivial rfl rfl rfl ?_ ?_; (omega)) | refine oV ?_
   refine oV ?_;refine oN ?_
   exact again (i + 1) (sC rfl (sC rfl (sC rfl sN))) (fun _ h => h) (by show A.length - (i + 1) < A.length - i; omega) ⟨by show i + 1 ≤ _; omega, fun j hj => by
     by_cases hji : j = i
     · subst hji; omega
     · exact he j (by omega)⟩
  have f2 := h2;try simp only [bl] at f2
  refine c_exit (then_x (then_x (blk_eq rfl (tC (sR ?_)))));refine oV ?_;refine nE ?_;refine ret1 rfl rfl ?_;refine leaf0 (congrArg Value.bool ?_); rw [decide_eq_true]; exact eq_of_dg (by omega) fun j hj => he j (by omega)
end Go.Proofs.YtfcmhcaggdakbaaGreatDoor
namespace Go.Tw
end Go.Tw
namespace Go.Proofs.YtfcmhcaggdakbaaGreatDoor
open Go Go.Tw
end Go.Proofs.YtfcmhcaggdakbaaGreatDoor
namespace Go.Tw
open Go
section
variable {P : Program} {ops : Array Oper} {rest : List Oper} {n : Nat} {D : List Deferred} {E : Env} {S : World → Prop} {Q : Exit → Act → World → Prop} {d : Nat} {ty : TypeId} {pos : String} {aft : Array Edge} {g : Option (Nat × Bool)}
end
end Go.Tw
namespace Go.Proofs.YtfcmhcaggdakbaaGreatDoor
open Go Go.Tw
structure OddOf (n x k : Nat) : Prop where
  eq : n = 2 ^ k * x
  odd : x % 2 = 1
theorem OddOf.pos {n x k : Nat} (h : OddOf n x k) : 0 < x := by have := h.odd; omega
theorem OddOf.le {n x k : Nat} (h : OddOf n x k) : x ≤ n := by rw [h.eq]; exact Nat.le_mul_of_pos_left _ (Nat.pow_pos (by decide))
theorem rEqual_any (s1 s2 : Bool) (va vb vc vd : Value) (A B C D : List Nat) {I : Hp} (ha : Ws I va A) (hb : Ws I vb B) (hc : Ws I vc C) (hd : Ws I vd D) : Fun Tryz.prog 67 [.agg #[.bool s1, va, vb], .agg #[.bool s2, vc, vd]] I [] (fun v _ _ => v = .bool (decide (s1 = s2) && decide (A = C) && decide (B = D))) := by
  intro w hw
  refine enter2 _ Tryz.func67 rfl Tryz.ntmps67 rfl ?_ hw;refine sR ?_;refine o_box trivial rfl rfl rfl (fun b2 => ?_);refine o_box trivial rfl rfl rfl (fun b3 => ?_);refine oV ?_;refine nS ?_;refine oF 0 Tryz.underlying35 Tryz.sizeOf4 ?_;refine oL Tryz.isAgg4 ?_;refine oF 0 Tryz.underlying35 Tryz.sizeOf4 ?_;refine oL Tryz.isAgg4 ?_;refine o_eqlB trivial rfl rfl rfl Tryz.underlying4 ?_;refine' o_and trivial trivial rfl rfl rfl rfl rfl rfl rfl rfl (fun hb10 => ?_) ?_;rotate_left
  ·
   have fb10 := hb10
   try simp only [bl] at fb10
   refine gF hb10 1 Tryz.underlying35 Tryz.sizeOf33 ?_;refine gL hb10 Tryz.isAgg33 ?_;refine gF hb10 1 Tryz.underlying35 Tryz.sizeOf33 ?_;refine gL hb10 Tryz.isAgg33 ?_;refine o_callQ (wS rfl rfl hb10) rfl Tryz.call85 rfl (rWords_any _ _ _ _ ha hc) ?_;refine oN ?_;exact joins rfl
  refine' o_and trivial trivial rfl rfl rfl rfl rfl rfl rfl rfl (fun hb17 => ?_) ?_;rotate_left
  ·
   have fb17 := hb17
   try simp only [bl] at fb17
   refine gF hb17 2 Tryz.underlying35 Tryz.sizeOf33 ?_;refine gL hb17 Tryz.isAgg33 ?_;refine gF hb17 2 Tryz.underlying35 Tryz.sizeOf33 ?_;refine gL hb17 Tryz.isAgg33 ?_;refine o_callQ (wS rfl rfl hb17) rfl Tryz.call85 rfl (rWords_any _ _ _ _ hb hd) ?_;refine oN ?_;exact joins rfl
  refine oV ?_;refine nE ?_;refine ret1 rfl rfl ?_;refine leaf0 (congrArg Value.bool ?_)
  congr 2
def isR (bad : Bool) (L : List Tok) (i : Nat) (k : Int) (s : ByteArray) : Bool := !bad && hdT (L.drop i) k s
theorem add_none {L : List Tok} {j : Nat} (h : (isR false L j 2 plusS || isR false L j 2 minusS) = false) : hdK addK (L.drop j) = none := by
  unfold isR at h
  simp only [Bool.not_false, Bool.true_and, Bool.or_eq_false_iff] at h
  cases hr : L.drop j with
  | nil => rfl
  | cons x r =>
    rw [hr] at h
    simp only [hdT] at h
    show addK x = none
    unfold addK
    rw [h.1, h.2]; rfl
end Go.Proofs.YtfcmhcaggdakbaaGreatDoor
namespace Go.Tw
open Go
theorem Few.pow {k : Nat} {q : Rat} (h : Few k q) (m : Nat) : Few (k * m + 1) (q ^ m) := by
  have key : ∀ a : Nat, a < 4294967296 ^ k → a ^ m < 4294967296 ^ (k * m + 1) := fun a ha => by
    have h2 : a ^ m ≤ (4294967296 ^ k) ^ m := Nat.pow_le_pow_left (Nat.le_of_lt ha) m
    rw [← Nat.pow_mul] at h2
    exact Nat.lt_of_le_of_lt h2 (Nat.pow_lt_pow_right (by decide) (Nat.lt_succ_self _))
  exact ⟨by rw [Rat.num_pow, Int.natAbs_pow]; exact key _ h.num, by rw [Rat.den_pow]; exact key _ h.den⟩
theorem RV.at_ {I : Hp} {v : Value} {rs : List RV} (h : Slc I 3 v (rcs rs)) {i : Nat} {r : RV} (hr : rs[i]? = some r) : ∀ k y, ([.bool (decide (r.q.num < 0)), r.vn, r.vd] : List Value)[k]? = some y → I.cell? ⟨slcB v, slcO v + i * 3 + k, none⟩ = some y :=
  h.cells i _ (by unfold rcs; rw [List.getElem?_map, hr]; rfl)
end Go.Tw
namespace Go.Proofs.YtfcmhcaggdakbaaGreatDoor
open Go Go.Tw
theorem rFew_any (vx : Value) (xs : List NV) (k : Int) {I : Hp} (h : PtV I vx xs) : Fun Tryz.prog 40 [vx, .int .i64 k] I [] (fun v _ _ => v = .bool (xs.all fun x => decide ((x.n.length : Int) ≤ k ∧ (x.d.length : Int) ≤ k))) := by
  have hl1 : (xs.map NV.cells).length = xs.length := List.length_map _
  have hs1 := h.s
  have hm1 := hs1.most
  unfold maxLen at hm1
  intro w hw
  refine enter2 _ Tryz.func40 rfl Tryz.ntmps40 rfl ?_ hw;refine sR ?_;refine oV ?_;refine nU ?_;refine oV ?_;refine oN (tC (cB ?_));refine c_loop (ι := Nat) [0, 1] (.cons rfl (.cons rfl .nil)) (fun i => xs.length - i) (fun i E0 => (5, .int .i64 (i : Nat)) :: E0) (fun i => St w [] I []) (fun i => i ≤ xs.length ∧ ((xs.take i).all fun x => decide ((x.n.length : Int) ≤ k ∧ (x.d.length : Int) ≤ k)) = true) (0) (sC rfl (sC rfl (sC rfl sN))) (fun _ h => h) (⟨Nat.zero_le _, rfl⟩) ?_;rintro i ⟨hi, he⟩
  try dsimp only
  refine cS (sR ?_);iterate 2 refine oV ?_
  refine o_lenSlc trivial rfl Tryz.underlying72 rfl (hs1) ?_;refine oV ?_;refine nT ?_;refine cC rfl (fun h1 => ?_) (fun h1 => ?_)
  ·
   have f1 := h1;try simp only [bl] at f1
   have hi1 : i < xs.length := by omega
   obtain ⟨x, hx⟩ : ∃ x, xs[i]? = some x := ⟨xs[i], List.getElem?_eq_getElem hi1⟩
   obtain ⟨hxn, hxd⟩ := h.ok x (List.mem_of_getElem? hx)
   refine cK (tC (cS (cB (sR ?_))));iterate 2 refine oV ?_
   refine o_elem trivial rfl Tryz.underlying72 Tryz.sizeOf35 rfl (hs1) rfl (by omega) ?_;refine oF 1 Tryz.underlying35 Tryz.sizeOf33 ?_;refine o_load1I trivial rfl Tryz.isAgg33 rfl (NV.at_ h hx 1 _ rfl) ?_;refine o_lenW trivial rfl Tryz.underlying33 rfl (hxn) ?_;iterate 2 refine oV ?_
   refine' o_or trivial trivial rfl rfl rfl rfl rfl rfl rfl rfl (fun hb20 => ?_) ?_;rotate_left
   ·
    have fb20 := hb20
    try simp only [bl] at fb20
    iterate 2 refine gV hb20 ?_
    refine o_elem (wS rfl rfl hb20) rfl Tryz.underlying72 Tryz.sizeOf35 rfl (hs1) rfl (by omega) ?_;refine gF hb20 2 Tryz.underlying35 Tryz.sizeOf33 ?_;refine o_load1I (wS rfl rfl hb20) rfl Tryz.isAgg33 rfl (NV.at_ h hx 2 _ rfl) ?_;refine o_lenW (wS rfl rfl hb20) rfl Tryz.underlying33 rfl (hxd) ?_;iterate 2 refine gV hb20 ?_
    refine oN ?_;exact joins rfl
   refine nT ?_;refine cC rfl (fun h2 => ?_) (fun h2 => ?_)
   ·
    have f2 := h2;try simp only [bl] at f2
    refine sR ?_;refine oV ?_;refine oN (tC (cT (blk_r (tR (tR (blk_r (tR ?_)))))));refine ret1 rfl rfl ?_;refine leaf0 (congrArg Value.bool ?_)
    symm
    rw [List.all_eq_false]
    exact ⟨x, List.mem_of_getElem? hx, by simp; omega⟩
   have f2 := h2;try simp only [bl] at f2
   refine cK (blk_n (tC (cR ?_)));refine oV ?_
   first | (refine o_add trivial rfl rfl rfl ?_ ?_; (omega)) | refine oV ?_
   refine oV ?_;refine oN ?_;exact again (i + 1) (sC rfl (sC rfl (sC rfl sN))) (fun _ h => h) (by show xs.length - (i + 1) < xs.length - i; omega) ⟨by show i + 1 ≤ _; omega, by rw [List.take_add_one, hx, List.all_append, he]; simp; omega⟩
  have f1 := h1;try simp only [bl] at f1
  refine c_exit (then_x (then_x (blk_eq rfl (tC (sR ?_)))));refine oV ?_;refine nE ?_;refine ret1 rfl rfl ?_;refine leaf0 (congrArg Value.bool ?_)
  rw [List.take_of_length_le (by omega)] at he
  exact he.symm
def fewP (p : ProgC) (most : Int) : Bool := decide ((p.all.length : Int) ≤ most ∧ p.ins.length ≤ 8 ∧ p.lets.length ≤ 8 ∧ p.outs.length ≤ 8) && p.all.all fun c => decide (c.n.length ≤ 6 ∧ c.d.length ≤ 6 ∧ c.name.size ≤ 60)
theorem PtV.lone {I : Hp} {b : Nat} {neg : Bool} {n d : List Nat} {vn vd : Value} {T : TypeId} {fz : Nat × Nat} (hb : I b = some (.cells ([.bool neg, vn, vd] ++ [] : List Value).toArray T fz)) (hn : Ws I vn n) (hd : Ws I vd d) : PtV I (.slice (some ⟨b, 0, none⟩) 1 1) [⟨neg, n, d, vn, vd⟩] :=
  ⟨Slc.of_box (xss := [[.bool neg, vn, vd]]) hb (fun c hc => by rw [List.mem_singleton.1 hc]; rfl) (by unfold maxLen; simp) (Nat.le_refl _), fun x hx => by rw [List.mem_singleton.1 hx]; exact ⟨hn, hd⟩⟩
def awX : ByteArray := ⟨#[120]⟩
def awA : ByteArray := ⟨#[97]⟩
theorem nameZ_X : nameZ awX = true := by kernel_rfl
theorem nameZ_A : nameZ awA = true := by kernel_rfl
theorem isT_no {x : Tok} {k : Int} {t : ByteArray} (h : x.kind ≠ k) : isT x k t = false := by simp [isT, h]
theorem rrFew_any (vi vl vo va : Value) (p : ProgC) (ns : List NodeV) (most : Int) {I : Hp} (hp : ProgV I vi vl vo va p ns) :
    Fun Tryz.prog 16 [.agg #[vi, vl, vo, va], .int .i64 most] I [] (fun v _ _ => v = .bool (fewP p most)) := by
  have hsi := hp.si
  have hsl := hp.sl
  have hso := hp.so
  have hsa := hp.sa
  have hli := scs_len p.ins
  have hlo := scs_len p.outs
  have hll : (p.lets.map LetC.cells).length = p.lets.length := List.length_map _
  have hla := nds_len ns
  have hal : p.all.length = ns.length := by rw [← hp.eq, List.length_map]
  have hm1 := hsa.most
  unfold maxLen at hm1
  intro w hw
  refine enter2 _ Tryz.func16 rfl Tryz.ntmps16 rfl ?_ hw;refine sR ?_;refine o_box trivial rfl rfl rfl (fun b2 => ?_);refine oV ?_;refine nU ?_;refine oF 3 Tryz.underlying26 Tryz.sizeOf24 ?_;refine oL Tryz.isAgg24 ?_;refine o_lenSlc trivial rfl Tryz.underlying24 rfl (hsa) ?_;iterate 2 refine oV ?_
  refine' o_or trivial trivial rfl rfl rfl rfl rfl rfl rfl rfl (fun hb12 => ?_) ?_;rotate_left
  ·
   have fb12 := hb12
   try simp only [bl] at fb12
   refine gF hb12 0 Tryz.underlying26 Tryz.sizeOf22 ?_;refine gL hb12 Tryz.isAgg22 ?_;refine o_lenSlc (wS rfl rfl hb12) rfl Tryz.underlying22 rfl (hsi) ?_;refine gV hb12 ?_;refine oN ?_;exact joins rfl
  refine' o_or trivial trivial rfl rfl rfl rfl rfl rfl rfl rfl (fun hb18 => ?_) ?_;rotate_left
  ·
   have fb18 := hb18
   try simp only [bl] at fb18
   refine gF hb18 1 Tryz.underlying26 Tryz.sizeOf23 ?_;refine gL hb18 Tryz.isAgg23 ?_;refine o_lenSlc (wS rfl rfl hb18) rfl Tryz.underlying23 rfl (hsl) ?_;refine gV hb18 ?_;refine oN ?_;exact joins rfl
  refine' o_or trivial trivial rfl rfl rfl rfl rfl rfl rfl rfl (fun hb24 => ?_) ?_;rotate_left
  ·
   have fb24 := hb24
   try simp only [bl] at fb24
   refine gF hb24 2 Tryz.underlying26 Tryz.sizeOf22 ?_;refine gL hb24 Tryz.isAgg22 ?_;refine o_lenSlc (wS rfl rfl hb24) rfl Tryz.underlying22 rfl (hso) ?_;refine gV hb24 ?_;refine oN ?_;exact joins rfl
  refine nT ?_;refine cC rfl (fun h1 => ?_) (fun h1 => ?_)
  ·
   have f1 := h1;try simp only [bl] at f1
   refine sR ?_;refine oV ?_;refine nF ?_;refine ret1 rfl rfl ?_;refine leaf0 (congrArg Value.bool ?_); unfold fewP; rw [decide_eq_false (by omega), Bool.false_and]
  have f1 := h1;try simp only [bl] at f1
  have hg : decide ((p.all.length : Int) ≤ most ∧ p.ins.length ≤ 8 ∧ p.lets.length ≤ 8 ∧ p.outs.length ≤ 8) = true := decide_eq_true (by omega)
  refine cK (tC (cS (sR ?_)));refine oV ?_;refine oN (tC (cB ?_));refine c_loop (ι := Nat) [2] (.cons rfl .nil) (fun i => ns.length - i) (fun i E0 => (5, .int .i64 (i : Nat)) :: E0) (fun i => St w [] I [.box b2 (.cells #[vi, vl, vo, va] 26 (0, 0))]) (fun i => i ≤ ns.length ∧ ((ns.take i).all fun o => decide (o.c.n.length ≤ 6 ∧ o.c.d.length ≤ 6 ∧ o.c.name.size ≤ 60)) = true) (0) (sC rfl (sC rfl sN)) (fun _ h => h) (⟨Nat.zero_le _, rfl⟩) ?_;rintro i ⟨hi, hall⟩
  try dsimp only
  refine cS (sR ?_);refine oV ?_;refine oF 3 Tryz.underlying26 Tryz.sizeOf24 ?_;refine oL Tryz.isAgg24 ?_;refine o_lenSlc trivial rfl Tryz.underlying24 rfl (hsa) ?_;refine oV ?_;refine nT ?_;refine cC rfl (fun h2 => ?_) (fun h2 => ?_)
  ·
   have f2 := h2;try simp only [bl] at f2
   obtain ⟨o, ho⟩ : ∃ o, ns[i]? = some o := ⟨ns[i]'(by omega), List.getElem?_eq_getElem (by omega)⟩
   have hom := List.mem_of_getElem? ho
   obtain ⟨hvn, hvd⟩ := hp.ok o hom
   refine cK (tC (cS (cB (sR ?_))));refine oF 3 Tryz.underlying26 Tryz.sizeOf24 ?_;refine oL Tryz.isAgg24 ?_;refine oV ?_;refine o_elem trivial rfl Tryz.underlying24 Tryz.sizeOf37 rfl (hsa) rfl (by omega) ?_;refine oF 5 Tryz.underlying37 Tryz.sizeOf35 ?_;refine o_loadAI trivial rfl Tryz.isAgg35 Tryz.sizeOf35 rfl rfl (fun k y hk => by have hc := nds_at hsa ho (5 + k) y (by rw [Nat.add_comm]; exact hk); rw [← Nat.add_assoc] at hc; exact hc) ?_;refine oB Tryz.underlying72 Tryz.sizeOf35 Tryz.zeroValue35 fun b43 => ?_;refine l_sealB .here (fun I1 hx1 hb43 => ?_);refine oQ Tryz.call40 rfl (rFew_any _ _ 6 (PtV.lone hb43 (hvn.le hx1.le) (hvd.le hx1.le))) ?_;refine oV ?_;refine oN (tC (cS ?_))
   rw [show ([(⟨o.c.neg, o.c.n, o.c.d, o.vn, o.vd⟩ : NV)].all fun x => decide ((x.n.length : Int) ≤ 6 ∧ (x.d.length : Int) ≤ 6)) = decide ((o.c.n.length : Int) ≤ 6 ∧ (o.c.d.length : Int) ≤ 6) from Bool.and_true _]
   refine cR ?_;iterate 2 refine oV ?_
   refine' o_or trivial trivial rfl rfl rfl rfl rfl rfl rfl rfl (fun hb47 => ?_) ?_;rotate_left
   ·
    have fb47 := hb47
    try simp only [bl] at fb47
    refine gF hb47 3 Tryz.underlying26 Tryz.sizeOf24 ?_;refine gL hb47 Tryz.isAgg24 ?_;refine gV hb47 ?_;refine o_elem (wS rfl rfl hb47) rfl Tryz.underlying24 Tryz.sizeOf37 rfl (hsa) rfl (by omega) ?_;refine gF hb47 4 Tryz.underlying37 Tryz.sizeOf9 ?_;refine o_load1I (wS rfl rfl hb47) rfl Tryz.isAgg9 rfl (hx1.le.cell (nds_at hsa ho 4 _ rfl)) ?_;refine o_lenS (wS rfl rfl hb47) rfl Tryz.underlying9 rfl ?_;refine gV hb47 ?_;refine oN ?_;exact joins rfl
   refine nT ?_;refine cC rfl (fun h3 => ?_) (fun h3 => ?_)
   ·
    have f3 := h3;try simp only [bl] at f3
    refine sR ?_;refine oV ?_;refine oN (tC (cT (blk_r (tR (tR (blk_r (tR ?_)))))));refine ret1 rfl rfl ?_;refine leaf hx1 (List.nil_sublist _) (congrArg Value.bool ?_)
    unfold fewP
    rw [hg, Bool.true_and]
    symm
    rw [List.all_eq_false]
    exact ⟨o.c, by rw [← hp.eq]; exact List.mem_map_of_mem hom, by simp only [decide_eq_true_eq]; omega⟩
   have f3 := h3;try simp only [bl] at f3
   refine cK (blk_n (tC (cR ?_)));refine oV ?_
   first | (refine o_add trivial rfl rfl rfl ?_ ?_; (omega)) | refine oV ?_
   refine oV ?_;refine oN ?_
   exact again (i + 1) (sC rfl (sC rfl sN)) (fun _ h => (h.sort (by repeat constructor)).fewer hx1.le) (by show ns.length - (i + 1) < ns.length - i; omega) ⟨by show i + 1 ≤ _; omega, by
     rw [List.take_add_one, ho, List.all_append, hall]
     simp only [Option.toList, List.all_cons, List.all_nil, Bool.and_true, Bool.true_and, decide_eq_true_eq]
     omega⟩
  have f2 := h2;try simp only [bl] at f2
  refine c_exit (then_x (then_x (blk_eq rfl (tC (sR ?_)))));refine oV ?_;refine nE ?_;refine ret1 rfl rfl ?_;refine leaf0 (congrArg Value.bool ?_)
  rw [List.take_of_length_le (by omega)] at hall
  unfold fewP
  rw [hg, Bool.true_and, ← hp.eq, List.all_map]
  exact hall.symm
theorem few_of {p : ProgC} {ns : List NodeV} {k : Int} (h : fewP p k = true) (he : ns.map NodeV.c = p.all) : (p.all.length : Int) ≤ k ∧ p.ins.length ≤ 8 ∧ p.lets.length ≤ 8 ∧ p.outs.length ≤ 8 ∧ (∀ o ∈ ns, o.c.few 6) ∧ ∀ o ∈ ns, o.c.name.size ≤ 60 := by
  unfold fewP at h
  rw [Bool.and_eq_true, decide_eq_true_eq, List.all_eq_true] at h
  obtain ⟨⟨h1, h2, h3, h4⟩, h5⟩ := h
  refine ⟨h1, h2, h3, h4, fun o ho => ?_, fun o ho => ?_⟩
  · have := h5 o.c (by rw [← he]; exact List.mem_map_of_mem ho)
    rw [decide_eq_true_eq] at this
    exact ⟨this.1, this.2.1⟩
  · have := h5 o.c (by rw [← he]; exact List.mem_map_of_mem ho)
    rw [decide_eq_true_eq] at this
    exact this.2.2
theorem few_up {c : NodeC} {k m : Nat} (h : c.few k) (hk : k ≤ m) : c.few m := ⟨Nat.le_trans h.1 hk, Nat.le_trans h.2 hk⟩
end Go.Proofs.YtfcmhcaggdakbaaGreatDoor
namespace Go.Tw
open Go Go.RowKit
section
variable {P : Program} {Q : Exit → Act → World → Prop} {n : Nat} {D : List Deferred} {E : Env} {S S' : World → Prop} {ops : Array Oper} {rest : List Oper} {d : Nat} {op : Op} {ty : TypeId} {pos : String} {aft : Array Edge} {g : Option (Nat × Bool)} {v : Value} {w0 : World} {X : List Nat} {I : Hp} {B : List Item}
theorem map_set {w : World} {b : Nat} {o o' : Obj} (hb : w.heap[b]? = some o) : But (some b) w { w with heap := w.heap.setIfInBounds b o' } ∧ (w.heap.setIfInBounds b o')[b]? = some o' := by
  refine ⟨⟨rfl, rfl, rfl, by simp, fun k hk hne => ?_⟩, ?_⟩
  · have : b ≠ k := fun e => hne (by rw [e])
    simp [Array.getElem?_setIfInBounds, this]
  · have hlt := (Array.getElem?_eq_some_iff.1 hb).1
    simp [hlt]
end
end Go.Tw
namespace Go.Tw
open Go Go.RowKit
def cnt (s : ByteArray) : List ByteArray → Nat
  | [] => 0
  | x :: L => (if s = x then 1 else 0) + cnt s L
section
variable {P : Program} {Q : Exit → Act → World → Prop} {n : Nat} {D : List Deferred} {E : Env} {S S' : World → Prop} {ops : Array Oper} {rest : List Oper} {d : Nat} {op : Op} {ty : TypeId} {pos : String} {aft : Array Edge} {g : Option (Nat × Bool)} {v : Value} {w0 : World} {X : List Nat} {I : Hp} {B : List Item}
end
end Go.Tw
namespace Go.Proofs.YtfcmhcaggdakbaaGreatDoor
open Go Go.Tw
theorem bytes_inj {a b : ByteArray} (h : a.toList = b.toList) : a = b := by
  rw [toList_data, toList_data] at h
  exact ByteArray.ext (Array.ext' h)
noncomputable def eqB {α : Type} (a b : α) : Bool := @decide (a = b) (Classical.propDecidable _)
theorem eqB_iff {α : Type} {a b : α} : eqB a b = true ↔ a = b := by unfold eqB; exact @decide_eq_true_iff _ (Classical.propDecidable _)
theorem eqB_ne {α : Type} {a b : α} (h : a ≠ b) : eqB a b = false := by
  cases e : eqB a b with
  | false => rfl
  | true => exact absurd (eqB_iff.1 e) h
theorem eqB_of {α : Type} {a b : α} {x : Bool} (h : x = true ↔ a = b) : x = eqB a b := by
  cases x with
  | true => exact (eqB_iff.2 (h.1 rfl)).symm
  | false => exact (eqB_ne fun e => by have := h.2 e; cases this).symm
theorem gNode_any (x y : NodeV) {I : Hp} (hx : x.ok I) (hy : y.ok I) : Fun Tryz.prog 61 [.agg x.cells.toArray, .agg y.cells.toArray] I [] (fun v _ _ => v = .bool (eqB x.c y.c)) := by
  obtain ⟨⟨kind, a, b, e, name, neg, n, d⟩, vn, vd⟩ := x
  obtain ⟨⟨kind2, a2, b2, e2, name2, neg2, n2, d2⟩, vn2, vd2⟩ := y
  have ha : Ws I vn n := hx.1
  have hb : Ws I vd d := hx.2
  have hc : Ws I vn2 n2 := hy.1
  have hd : Ws I vd2 d2 := hy.2
  unfold NodeV.cells
  intro w hw
  refine enter2 _ Tryz.func61 rfl Tryz.ntmps61 rfl ?_ hw;refine sR ?_;refine o_box trivial rfl rfl rfl (fun b2 => ?_);refine o_box trivial rfl rfl rfl (fun b3 => ?_);refine oV ?_;refine nS ?_;refine oF 0 Tryz.underlying37 Tryz.sizeOf3 ?_;refine oL Tryz.isAgg3 ?_;refine oF 0 Tryz.underlying37 Tryz.sizeOf3 ?_;refine oL Tryz.isAgg3 ?_;refine oV ?_;refine' o_and trivial trivial rfl rfl rfl rfl rfl rfl rfl rfl (fun hb10 => ?_) ?_;rotate_left
  ·
   have fb10 := hb10
   try simp only [bl] at fb10
   refine gF hb10 1 Tryz.underlying37 Tryz.sizeOf3 ?_;refine gL hb10 Tryz.isAgg3 ?_;refine gF hb10 1 Tryz.underlying37 Tryz.sizeOf3 ?_;refine gL hb10 Tryz.isAgg3 ?_;refine gV hb10 ?_;refine oN ?_;exact joins rfl
  refine' o_and trivial trivial rfl rfl rfl rfl rfl rfl rfl rfl (fun hb17 => ?_) ?_;rotate_left
  ·
   have fb17 := hb17
   try simp only [bl] at fb17
   refine gF hb17 2 Tryz.underlying37 Tryz.sizeOf3 ?_;refine gL hb17 Tryz.isAgg3 ?_;refine gF hb17 2 Tryz.underlying37 Tryz.sizeOf3 ?_;refine gL hb17 Tryz.isAgg3 ?_;refine gV hb17 ?_;refine oN ?_;exact joins rfl
  refine' o_and trivial trivial rfl rfl rfl rfl rfl rfl rfl rfl (fun hb24 => ?_) ?_;rotate_left
  ·
   have fb24 := hb24
   try simp only [bl] at fb24
   refine gF hb24 3 Tryz.underlying37 Tryz.sizeOf3 ?_;refine gL hb24 Tryz.isAgg3 ?_;refine gF hb24 3 Tryz.underlying37 Tryz.sizeOf3 ?_;refine gL hb24 Tryz.isAgg3 ?_;refine gV hb24 ?_;refine oN ?_;exact joins rfl
  refine' o_and trivial trivial rfl rfl rfl rfl rfl rfl rfl rfl (fun hb31 => ?_) ?_;rotate_left
  ·
   have fb31 := hb31
   try simp only [bl] at fb31
   refine gF hb31 4 Tryz.underlying37 Tryz.sizeOf9 ?_;refine gL hb31 Tryz.isAgg9 ?_;refine gF hb31 4 Tryz.underlying37 Tryz.sizeOf9 ?_;refine gL hb31 Tryz.isAgg9 ?_;refine gV hb31 ?_;refine oN ?_;exact joins rfl
  refine' o_and trivial trivial rfl rfl rfl rfl rfl rfl rfl rfl (fun hb38 => ?_) ?_;rotate_left
  ·
   have fb38 := hb38
   try simp only [bl] at fb38
   refine gF hb38 5 Tryz.underlying37 Tryz.sizeOf35 ?_;refine o_loadA (wS rfl rfl hb38) rfl Tryz.isAgg35 Tryz.sizeOf35 rfl (by repeat constructor) (by repeat constructor) ?_;refine gF hb38 5 Tryz.underlying37 Tryz.sizeOf35 ?_;refine o_loadA (wS rfl rfl hb38) rfl Tryz.isAgg35 Tryz.sizeOf35 rfl (by repeat constructor) (by repeat constructor) ?_;refine o_callQ (wS rfl rfl hb38) rfl Tryz.call67 rfl (rEqual_any neg neg2 vn vd vn2 vd2 n d n2 d2 ha hb hc hd) ?_;refine oN ?_;exact joins rfl
  refine oV ?_;refine nE ?_;refine ret1 rfl rfl ?_;refine leaf0 (congrArg Value.bool (eqB_of ?_))
  constructor
  · intro h
    simp only [Bool.and_eq_true, beq_iff_eq, decide_eq_true_eq] at h
    obtain ⟨⟨⟨⟨⟨h1, h2⟩, h3⟩, h4⟩, h5⟩, ⟨h6, h7⟩, h8⟩ := h
    have h5 := bytes_inj h5
    subst h1 h2 h3 h4 h5 h6 h7 h8
    rfl
  · intro h
    injection h with h1 h2 h3 h4 h5 h6 h7 h8
    subst h1 h2 h3 h4 h5 h6 h7 h8
    simp
theorem take_ext {α : Type} {l m : List α} (hl : l.length = m.length) {i : Nat} (h : l.take i = m.take i) (hi : l.length ≤ i) : l = m := by
  rwa [List.take_of_length_le hi, List.take_of_length_le (by omega)] at h
theorem take_more {α : Type} {l m : List α} {i : Nat} {x y : α} (h : l.take i = m.take i) (hx : l[i]? = some x) (hy : m[i]? = some y) (e : x = y) : l.take (i + 1) = m.take (i + 1) := by
  rw [List.take_add_one, List.take_add_one, h, hx, hy, e]
theorem at_eq {α : Type} {l m : List α} {i : Nat} {x y : α} (h : l = m) (hx : l[i]? = some x) (hy : m[i]? = some y) : x = y := by
  rw [h, hy] at hx; exact (Option.some.inj hx).symm
theorem gNames_any (va vb : Value) (l m : List ByteArray) {I : Hp} (ha : Slc I 1 va (scs l)) (hb : Slc I 1 vb (scs m)) : Fun Tryz.prog 62 [va, vb] I [] (fun v _ _ => v = .bool (eqB l m)) := by
  have hl := scs_len l
  have hm := scs_len m
  have hmx := ha.most
  rw [hl] at hmx
  unfold maxLen at hmx
  intro w hw
  refine enter2 _ Tryz.func62 rfl Tryz.ntmps62 rfl ?_ hw;refine sR ?_;refine oV ?_;refine nU ?_;refine oV ?_;refine o_lenSlc trivial rfl Tryz.underlying22 rfl (ha) ?_;refine oV ?_;refine o_lenSlc trivial rfl Tryz.underlying22 rfl (hb) ?_;refine oV ?_;refine nT ?_;refine cC rfl (fun h1 => ?_) (fun h1 => ?_)
  ·
   have f1 := h1;try simp only [bl] at f1
   have hne : l ≠ m := fun e => by
     rw [hl, hm, e] at f1; exact f1 rfl
   refine sR ?_;refine oV ?_;refine nF ?_;refine ret1 rfl rfl ?_;exact leaf0 (congrArg Value.bool (eqB_ne hne).symm)
  have f1 := h1;try simp only [bl] at f1
  have hlm : l.length = m.length := by rw [hl, hm] at f1; omega
  refine cK (tC (cS (sR ?_)));refine oV ?_;refine oN (tC (cB ?_));refine c_loop (ι := Nat) [0, 1] (.cons rfl (.cons rfl .nil)) (fun x => l.length - x) (fun x E0 => (5, .int .i64 (x : Int)) :: E0) (fun x => St w [] I []) (fun x => x ≤ l.length ∧ l.take x = m.take x) (0) (sC rfl (sC rfl (sC rfl sN))) (fun _ h => h) (⟨Nat.zero_le _, rfl⟩) ?_;rintro i ⟨hi, ht⟩
  try dsimp only
  refine cS (sR ?_);iterate 2 refine oV ?_
  refine o_lenSlc trivial rfl Tryz.underlying22 rfl (ha) ?_;refine oV ?_;refine nT ?_;refine cC rfl (fun h2 => ?_) (fun h2 => ?_)
  ·
   have f2 := h2;try simp only [bl] at f2
   obtain ⟨s, hs⟩ : ∃ s, l[i]? = some s := ⟨l[i]'(by omega), List.getElem?_eq_getElem (by omega)⟩
   obtain ⟨t, hs2⟩ : ∃ t, m[i]? = some t := ⟨m[i]'(by omega), List.getElem?_eq_getElem (by omega)⟩
   refine cK (tC (cS (cB (cS ?_))));refine c_quiet (by kernel_rfl) (by kernel_rfl) (fun _ h => h.drawn) ?_;iterate 2 refine oV ?_
   refine o_elem trivial rfl Tryz.underlying22 Tryz.sizeOf9 rfl (ha) rfl (by omega) ?_;refine o_load1I trivial rfl Tryz.isAgg9 rfl (scs_at ha hs) ?_;iterate 2 refine oV ?_
   refine o_elem trivial rfl Tryz.underlying22 Tryz.sizeOf9 rfl (hb) rfl (by omega) ?_;refine o_load1I trivial rfl Tryz.isAgg9 rfl (scs_at hb hs2) ?_;refine oV ?_;refine nT ?_;refine cC rfl (fun h3 => ?_) (fun h3 => ?_)
   ·
    have f3 := h3;try simp only [bl] at f3
    have hne : l ≠ m := fun e => by
      rw [at_eq e hs hs2] at h3; simp at h3
    refine sR ?_;refine oV ?_;refine oN (tC (cT (blk_r (tR (tR (blk_r (tR ?_)))))));refine ret1 rfl rfl ?_;exact leaf0 (congrArg Value.bool (eqB_ne hne).symm)
   have f3 := h3;try simp only [bl] at f3
   have hst : s = t := bytes_inj (by simpa using h3)
   refine cK (blk_n (tC (cR ?_)));refine oV ?_
   first | (refine o_add trivial rfl rfl rfl ?_ ?_; (omega)) | refine oV ?_
   refine oV ?_;refine oN ?_;exact again (i + 1) (sC rfl (sC rfl (sC rfl sN))) (fun _ h => h) (by show l.length - (i + 1) < l.length - i; omega) ⟨by show i + 1 ≤ _; omega, take_more ht hs hs2 hst⟩
  have f2 := h2;try simp only [bl] at f2
  refine c_exit (then_x (then_x (blk_eq rfl (tC (sR ?_)))));refine oV ?_;refine nE ?_;refine ret1 rfl rfl ?_;exact leaf0 (congrArg Value.bool (eqB_iff.2 (take_ext hlm ht (by omega))).symm)
theorem gSame_any (vi vl vo va ui ul uo ua : Value) (p q : ProgC) (ns ms : List NodeV) {I : Hp} (hp : ProgV I vi vl vo va p ns) (hq : ProgV I ui ul uo ua q ms) :
    Fun Tryz.prog 28 [.agg #[vi, vl, vo, va], .agg #[ui, ul, uo, ua]] I [] (fun v _ _ => v = .bool (eqB p q)) := by
  have hsi := hp.si
  have hsl := hp.sl
  have hso := hp.so
  have hsa := hp.sa
  have gsi := hq.si
  have gsl := hq.sl
  have gso := hq.so
  have gsa := hq.sa
  have hll : (p.lets.map LetC.cells).length = p.lets.length := List.length_map _
  have gll : (q.lets.map LetC.cells).length = q.lets.length := List.length_map _
  have hla := nds_len ns
  have gla := nds_len ms
  have hal : p.all.length = ns.length := by rw [← hp.eq, List.length_map]
  have gal : q.all.length = ms.length := by rw [← hq.eq, List.length_map]
  have hmx := hsl.most
  rw [hll] at hmx
  unfold maxLen at hmx
  have hmy := hsa.most
  rw [hla] at hmy
  unfold maxLen at hmy
  intro w hw
  refine enter2 _ Tryz.func28 rfl Tryz.ntmps28 rfl ?_ hw;refine sR ?_;refine o_box trivial rfl rfl rfl (fun b2 => ?_);refine o_box trivial rfl rfl rfl (fun b3 => ?_);refine oV ?_;refine nU ?_;refine oF 1 Tryz.underlying26 Tryz.sizeOf23 ?_;refine oL Tryz.isAgg23 ?_;refine o_lenSlc trivial rfl Tryz.underlying23 rfl (hsl) ?_;refine oF 1 Tryz.underlying26 Tryz.sizeOf23 ?_;refine oL Tryz.isAgg23 ?_;refine o_lenSlc trivial rfl Tryz.underlying23 rfl (gsl) ?_;refine oV ?_;refine' o_or trivial trivial rfl rfl rfl rfl rfl rfl rfl rfl (fun hb15 => ?_) ?_;rotate_left
  ·
   have fb15 := hb15
   try simp only [bl] at fb15
   refine gF hb15 3 Tryz.underlying26 Tryz.sizeOf24 ?_;refine gL hb15 Tryz.isAgg24 ?_;refine o_lenSlc (wS rfl rfl hb15) rfl Tryz.underlying24 rfl (hsa) ?_;refine gF hb15 3 Tryz.underlying26 Tryz.sizeOf24 ?_;refine gL hb15 Tryz.isAgg24 ?_;refine o_lenSlc (wS rfl rfl hb15) rfl Tryz.underlying24 rfl (gsa) ?_;refine gV hb15 ?_;refine oN ?_;exact joins rfl
  refine nT ?_;refine cC rfl (fun h1 => ?_) (fun h1 => ?_)
  ·
   have f1 := h1;try simp only [bl] at f1
   have hne : p ≠ q := fun e => by
     have e1 : p.lets.length = q.lets.length := by rw [e]
     have e2 : p.all.length = q.all.length := by rw [e]
     rw [hll, gll, hla, gla] at f1
     omega
   refine sR ?_;refine oV ?_;refine nF ?_;refine ret1 rfl rfl ?_;exact leaf0 (congrArg Value.bool (eqB_ne hne).symm)
  have f1 := h1;try simp only [bl] at f1
  have hlm : p.lets.length = q.lets.length := by rw [hll, gll, hla, gla] at f1; omega
  have ham : ns.length = ms.length := by rw [hll, gll, hla, gla] at f1; omega
  refine cK (tC (cS (sR ?_)));refine oV ?_;refine oN (tC (cB ?_));refine c_loop (ι := Nat) [2, 3] (.cons rfl (.cons rfl .nil)) (fun x => p.lets.length - x) (fun x E0 => (5, .int .i64 (x : Int)) :: E0) (fun x => St w [] I [.box b3 (.cells #[ui, ul, uo, ua] 26 (0, 0)), .box b2 (.cells #[vi, vl, vo, va] 26 (0, 0))]) (fun x => x ≤ p.lets.length ∧ p.lets.take x = q.lets.take x) (0) (sC rfl (sC rfl (sC rfl sN))) (fun _ h => h) (⟨Nat.zero_le _, rfl⟩) ?_;rintro i ⟨hi, ht⟩
  try dsimp only
  refine cS (sR ?_);refine oV ?_;refine oF 1 Tryz.underlying26 Tryz.sizeOf23 ?_;refine oL Tryz.isAgg23 ?_;refine o_lenSlc trivial rfl Tryz.underlying23 rfl (hsl) ?_;refine oV ?_;refine nT ?_;refine cC rfl (fun h2 => ?_) (fun h2 => ?_)
  ·
   have f2 := h2;try simp only [bl] at f2
   obtain ⟨c, hc⟩ : ∃ c, p.lets[i]? = some c := ⟨p.lets[i]'(by omega), List.getElem?_eq_getElem (by omega)⟩
   obtain ⟨c2, hc2⟩ : ∃ c, q.lets[i]? = some c := ⟨q.lets[i]'(by omega), List.getElem?_eq_getElem (by omega)⟩
   refine cK (tC (cS (cB (cS ?_))));refine c_quiet (by kernel_rfl) (by kernel_rfl) (fun _ h => h.drawn) ?_;refine oF 1 Tryz.underlying26 Tryz.sizeOf23 ?_;refine oL Tryz.isAgg23 ?_;refine oV ?_;refine o_elem trivial rfl Tryz.underlying23 Tryz.sizeOf39 rfl (hsl) rfl (by omega) ?_;refine o_loadAI trivial rfl Tryz.isAgg39 Tryz.sizeOf39 rfl rfl (lts_at hsl hc) ?_;refine oF 1 Tryz.underlying26 Tryz.sizeOf23 ?_;refine oL Tryz.isAgg23 ?_;refine oV ?_;refine o_elem trivial rfl Tryz.underlying23 Tryz.sizeOf39 rfl (gsl) rfl (by omega) ?_;refine o_loadAI trivial rfl Tryz.isAgg39 Tryz.sizeOf39 rfl rfl (lts_at gsl hc2) ?_;refine o_neqV trivial rfl rfl rfl Tryz.eqGuardType39 (EqV.struct Tryz.underlying39 Tryz.stoodInHeld39 (EqP.cons (T := 9) (o := 0) (by decide) rfl rfl (.one Tryz.isAgg9 (by repeat constructor)) (.one Tryz.isAgg9 (by repeat constructor)) (EqV.str Tryz.underlying9) (EqP.last (T := 3) (o := 1) (by decide) rfl rfl (.one Tryz.isAgg3 (by repeat constructor)) (.one Tryz.isAgg3 (by repeat constructor)) (EqV.int Tryz.underlying3)))) ?_;refine nT ?_;refine cC rfl (fun h3 => ?_) (fun h3 => ?_)
   ·
    have f3 := h3;try simp only [bl] at f3
    have hne : p ≠ q := fun e => by
      have e2 : c = c2 := at_eq (by rw [e]) hc hc2
      rw [e2] at h3; simp at h3
    refine sR ?_;refine oV ?_;refine oN (tC (cT (blk_r (tR (tR (blk_r (tR ?_)))))));refine ret1 rfl rfl ?_;exact leaf0 (congrArg Value.bool (eqB_ne hne).symm)
   have f3 := h3;try simp only [bl] at f3
   have hst : c = c2 := by
     obtain ⟨n1, r1⟩ := c
     obtain ⟨n2, r2⟩ := c2
     simp at h3
     obtain ⟨e1, e2⟩ := h3
     rw [bytes_inj e1, e2]
   refine cK (blk_n (tC (cR ?_)));refine oV ?_
   first | (refine o_add trivial rfl rfl rfl ?_ ?_; (omega)) | refine oV ?_
   refine oV ?_;refine oN ?_;exact again (i + 1) (sC rfl (sC rfl (sC rfl sN))) (fun _ h => h) (by show p.lets.length - (i + 1) < p.lets.length - i; omega) ⟨by show i + 1 ≤ _; omega, take_more ht hc hc2 hst⟩
  have f2 := h2;try simp only [bl] at f2
  have helet : p.lets = q.lets := take_ext hlm ht (by omega)
  refine c_exit (then_x (then_x (blk_eq rfl (tC (cS (sR ?_))))));refine oV ?_;refine oN (tC (cB ?_));refine c_loop (ι := Nat) [2, 3] (.cons rfl (.cons rfl .nil)) (fun x => ns.length - x) (fun x E0 => (6, .int .i64 (x : Int)) :: E0) (fun x => St w [] I [.box b3 (.cells #[ui, ul, uo, ua] 26 (0, 0)), .box b2 (.cells #[vi, vl, vo, va] 26 (0, 0))]) (fun x => x ≤ ns.length ∧ p.all.take x = q.all.take x) (0) (sC rfl (sC rfl (sC rfl sN))) (fun _ h => h) (⟨Nat.zero_le _, rfl⟩) ?_;rintro j ⟨hj, hta⟩
  try dsimp only
  refine cS (sR ?_);refine oV ?_;refine oF 3 Tryz.underlying26 Tryz.sizeOf24 ?_;refine oL Tryz.isAgg24 ?_;refine o_lenSlc trivial rfl Tryz.underlying24 rfl (hsa) ?_;refine oV ?_;refine nT ?_;refine cC rfl (fun h4 => ?_) (fun h4 => ?_)
  ·
   have f4 := h4;try simp only [bl] at f4
   obtain ⟨x, hx⟩ : ∃ x, ns[j]? = some x := ⟨ns[j]'(by omega), List.getElem?_eq_getElem (by omega)⟩
   obtain ⟨y, hy⟩ : ∃ y, ms[j]? = some y := ⟨ms[j]'(by omega), List.getElem?_eq_getElem (by omega)⟩
   have hx2 : p.all[j]? = some x.c := by rw [← hp.eq, List.getElem?_map, hx]; rfl
   have hy2 : q.all[j]? = some y.c := by rw [← hq.eq, List.getElem?_map, hy]; rfl
   refine cK (tC (cS (cB (cS ?_))));refine c_quiet (by kernel_rfl) (by kernel_rfl) (fun _ h => h.drawn) ?_;refine oF 3 Tryz.underlying26 Tryz.sizeOf24 ?_;refine oL Tryz.isAgg24 ?_;refine oV ?_;refine o_elem trivial rfl Tryz.underlying24 Tryz.sizeOf37 rfl (hsa) rfl (by omega) ?_;refine o_loadAI trivial rfl Tryz.isAgg37 Tryz.sizeOf37 rfl rfl (nds_at hsa hx) ?_;refine oF 3 Tryz.underlying26 Tryz.sizeOf24 ?_;refine oL Tryz.isAgg24 ?_;refine oV ?_;refine o_elem trivial rfl Tryz.underlying24 Tryz.sizeOf37 rfl (gsa) rfl (by omega) ?_;refine o_loadAI trivial rfl Tryz.isAgg37 Tryz.sizeOf37 rfl rfl (nds_at gsa hy) ?_;refine oQ Tryz.call61 rfl (gNode_any x y (hp.ok x (List.mem_of_getElem? hx)) (hq.ok y (List.mem_of_getElem? hy))) ?_;refine oV ?_;refine nS ?_;iterate 2 refine oV ?_
   refine nT ?_;refine cC rfl (fun h5 => ?_) (fun h5 => ?_)
   ·
    have f5 := h5;try simp only [bl] at f5
    have hne : p ≠ q := fun e => by
      have e2 : x.c = y.c := at_eq (by rw [e]) hx2 hy2
      rw [eqB_iff.2 e2] at h5; cases h5
    refine sR ?_;refine oV ?_;refine oN (tC (cT (blk_r (tR (tR (blk_r (tR ?_)))))));refine ret1 rfl rfl ?_;exact leaf0 (congrArg Value.bool (eqB_ne hne).symm)
   have f5 := h5;try simp only [bl] at f5
   have hxy : x.c = y.c := eqB_iff.1 (by simpa using h5)
   refine cK (blk_n (tC (cR ?_)));refine oV ?_
   first | (refine o_add trivial rfl rfl rfl ?_ ?_; (omega)) | refine oV ?_
   refine oV ?_;refine oN ?_;exact again (j + 1) (sC rfl (sC rfl (sC rfl sN))) (fun _ h => h) (by show ns.length - (j + 1) < ns.length - j; omega) ⟨by show j + 1 ≤ _; omega, take_more hta hx2 hy2 hxy⟩
  have f4 := h4;try simp only [bl] at f4
  have heall : p.all = q.all := take_ext (by omega) hta (by omega)
  refine c_exit (then_x (then_x (blk_eq rfl (tC (sR ?_)))));refine oF 0 Tryz.underlying26 Tryz.sizeOf22 ?_;refine oL Tryz.isAgg22 ?_;refine oF 0 Tryz.underlying26 Tryz.sizeOf22 ?_;refine oL Tryz.isAgg22 ?_;refine oQ Tryz.call62 rfl (gNames_any vi ui p.ins q.ins hsi gsi) ?_;refine' o_and trivial trivial rfl rfl rfl rfl rfl rfl rfl rfl (fun hb67 => ?_) ?_;rotate_left
  ·
   have fb67 := hb67
   try simp only [bl] at fb67
   refine gF hb67 2 Tryz.underlying26 Tryz.sizeOf22 ?_;refine gL hb67 Tryz.isAgg22 ?_;refine gF hb67 2 Tryz.underlying26 Tryz.sizeOf22 ?_;refine gL hb67 Tryz.isAgg22 ?_;refine o_callQ (wS rfl rfl hb67) rfl Tryz.call62 rfl (gNames_any vo uo p.outs q.outs hso gso) ?_;refine oN ?_;exact joins rfl
  refine oV ?_;refine nE ?_;refine ret1 rfl rfl ?_;refine leaf0 (congrArg Value.bool (eqB_of ?_))
  rw [Bool.and_eq_true, eqB_iff, eqB_iff]
  constructor
  · rintro ⟨h1, h2⟩
    obtain ⟨p1, p2, p3, p4⟩ := p
    obtain ⟨q1, q2, q3, q4⟩ := q
    simp only at h1 h2 helet heall
    subst h1 h2 helet heall
    rfl
  · intro h
    exact ⟨by rw [h], by rw [h]⟩
def _root_.Go.Tw.NOut.rest : NOut → List Tok
  | .bad r => r
  | .ok _ r => r
theorem namesZ_suf : ∀ (r : List Tok), (namesZ r).rest <:+ r
  | [] => List.suffix_refl _
  | [x] => by
    unfold namesZ
    split
    · exact List.nil_suffix
    · exact List.suffix_refl _
  | x :: y :: r => by
    have ih := namesZ_suf r
    unfold namesZ
    split
    · split
      · cases h : namesZ r with
        | bad r1 => rw [h] at ih; exact List.IsSuffix.trans ih ⟨[_, _], rfl⟩
        | ok l r1 => rw [h] at ih; exact List.IsSuffix.trans ih ⟨[_, _], rfl⟩
      · split
        · exact ⟨[_, _], rfl⟩
        · exact List.suffix_cons _ _
    · exact List.suffix_refl _
def _root_.Go.Tw.LO.rest : LO → List Tok
  | .bad r => r
  | .ok _ _ r => r
theorem _root_.Go.Tw.Lt1.suf {all : List NodeC} {r : List Tok} {o : LO} (h : Lt1 all r o) : o.rest <:+ r := by
  cases h with
  | noname _ => exact List.suffix_refl _
  | noeq _ _ => exact List.suffix_cons _ _
  | sumbad _ _ h => exact List.IsSuffix.trans h.suf ⟨[_, _], rfl⟩
  | nosemi _ _ h _ => exact List.IsSuffix.trans h.suf ⟨[_, _], rfl⟩
  | ok _ _ h _ => exact List.IsSuffix.trans ((List.suffix_cons _ _).trans h.suf) ⟨[_, _], rfl⟩
def _root_.Go.Tw.LSO.rest : LSO → List Tok
  | .bad r => r
  | .ok _ _ r => r
theorem _root_.Go.Tw.Lts.suf {ls : List LetC} {all : List NodeC} {r : List Tok} {o : LSO} (h : Lts ls all r o) : o.rest <:+ r := by
  induction h with
  | fin _ => exact List.suffix_refl _
  | bad _ h => exact List.IsSuffix.trans h.suf (List.suffix_cons _ _)
  | more _ h _ ih => exact ih.trans (List.IsSuffix.trans h.suf (List.suffix_cons _ _))
theorem _root_.Go.Tw.Prg.suf {r r1 : List Tok} (h : Prg r (.bad r1)) : r1 <:+ r := by
  have nm : ∀ {r r1 : List Tok} {l : List ByteArray}, namesZ r = .ok l r1 → r1 <:+ r := fun {r r1 l} h => by have := namesZ_suf r; rw [h] at this; exact this
  have nb : ∀ {r r1 : List Tok}, namesZ r = .bad r1 → r1 <:+ r := fun {r r1} h => by have := namesZ_suf r; rw [h] at this; exact this
  cases h with
  | noin _ => exact List.suffix_refl _
  | insbad _ h => exact (nb h).trans (List.suffix_cons _ _)
  | letsbad _ h1 h2 => exact h2.suf.trans ((nm h1).trans (List.suffix_cons _ _))
  | noout _ h1 h2 _ => exact h2.suf.trans ((nm h1).trans (List.suffix_cons _ _))
  | outsbad _ h1 h2 _ h3 => exact (nb h3).trans ((List.suffix_cons _ _).trans (h2.suf.trans ((nm h1).trans (List.suffix_cons _ _))))
  | tail _ h1 h2 _ h3 => exact (nm h3).trans ((List.suffix_cons _ _).trans (h2.suf.trans ((nm h1).trans (List.suffix_cons _ _))))
theorem parse_of {s : ByteArray} {p : ProgC} {l : List (ByteArray × Ex)} (h1 : (lexZ s).err = 0) (h2 : (lexZ s).toks.map st = progQ p.ins p.outs l) (h : RightP p l) : parseZ s = ⟨p, 0, 0, 0⟩ := by
  have hp := progQ_prg h.ins.1 h.ins.2.1 h.ok h.outs.1 h.outs.2.1
  rw [← h.lets, ← h.all] at hp
  unfold parseZ
  rw [h1, if_neg (by decide), prgZ_ok_st h2 hp]
  unfold parseT
  dsimp only
  rw [if_pos (by rw [tZ_right h]; rfl)]
def s12 : ByteArray := ⟨#[105, 110, 32, 120, 59, 32, 108, 101, 116, 32, 97, 61, 40, 50, 42, 120, 41, 94, 50, 45, 40, 49, 45, 120, 41, 59, 32, 111, 117, 116, 32, 97, 59]⟩
def m12 : Ex := .bin 4 (.num 2) (.ref awX)
def x12 : Ex := .bin 3 (.pow m12 2) (.bin 3 (.num 1) (.ref awX))
def p12 : ProgC := ⟨[awX], (laid [(awA, x12)] 0).1, [awA], (laid [(awA, x12)] 0).2⟩
theorem dec1 : decS 1 = ⟨#[49]⟩ := by
  have h : digs 1 = [49] := by rw [digs, dif_pos (by decide)]
  unfold decS decL; rw [h]; rfl
theorem dec2 : decS 2 = ⟨#[50]⟩ := by
  have h : digs 2 = [50] := by rw [digs, dif_pos (by decide)]
  unfold decS decL; rw [h]; rfl
theorem rat1 : ratS 1 = ⟨#[49]⟩ := by
  unfold ratS; rw [if_pos (show (1 : Rat).den = 1 from rfl)]; exact dec1
theorem rat2 : ratS 2 = ⟨#[50]⟩ := by
  unfold ratS; rw [if_pos (show (2 : Rat).den = 1 from rfl)]; exact dec2
theorem ok_num {n : Nat} (h : n ≤ 9) : (Ex.num (n : Rat)).ok := by
  have e : digs n = [48 + n] := by rw [digs, dif_pos (by omega)]
  have e1 : digs 1 = [49] := by rw [digs, dif_pos (by decide)]
  refine ⟨?_, ?_, ?_⟩
  · show (0 : Int) ≤ ((n : Int) : Int); omega
  · show (digs ((n : Int).natAbs)).length ≤ 40; rw [Int.natAbs_natCast, e]; show 1 ≤ 40; decide
  · show (digs 1).length ≤ 40; rw [e1]; decide
theorem ok12 : x12.ok := ⟨by decide, by decide, ⟨⟨by decide, by decide, ok_num (n := 2) (by decide), nameZ_X⟩, by decide, by decide⟩, by decide, by decide, ok_num (n := 1) (by decide), nameZ_X⟩
theorem right12 : RightP p12 [(awA, x12)] where
  lets := rfl
  all := rfl
  ok := fun a ha => by rw [List.mem_singleton.1 ha]; exact ⟨nameZ_A, ok12⟩
  ins := ⟨fun s hs => by rw [List.mem_singleton.1 hs]; exact nameZ_X, by decide, by decide⟩
  outs := ⟨fun s hs => by rw [List.mem_singleton.1 hs]; exact nameZ_A, by decide, by decide⟩
  few := ⟨by decide, by decide⟩
  low := fun a ha => by rw [List.mem_singleton.1 ha]; decide
theorem sh12 : shP x12 = [tk 2 lpar, tk 1 (ratS 2), gp, tk 2 starS, gp, tk 0 awX, tk 2 rpar, tk 2 Go.Tw.caret, tk 1 (decS 2), gp, tk 2 minusS, gp, tk 2 lpar, tk 1 (ratS 1), gp, tk 2 minusS, gp, tk 0 awX, tk 2 rpar] := rfl
theorem toks12 : progQ p12.ins p12.outs [(awA, x12)] = [tk 0 inS, tk 0 awX, tk 2 semiS, tk 0 letS, tk 0 awA, tk 2 equalS, tk 2 lpar, tk 1 ⟨#[50]⟩, tk 2 starS, tk 0 awX, tk 2 rpar, tk 2 Go.Tw.caret, tk 1 ⟨#[50]⟩, tk 2 minusS, tk 2 lpar, tk 1 ⟨#[49]⟩, tk 2 minusS, tk 0 awX, tk 2 rpar, tk 2 semiS, tk 0 outS, tk 0 awA, tk 2 semiS] := by
  unfold progQ letsQ letQ
  rw [sh12, rat1, rat2, dec2]
  rfl
theorem parse12 : parseZ s12 = ⟨p12, 0, 0, 0⟩ := parse_of (by kernel_rfl) (by rw [toks12]; kernel_rfl) right12
def d12 : ByteArray := ⟨#[105, 110, 32, 120, 59, 10, 108, 101, 116, 32, 97, 32, 61, 32, 40, 50, 32, 42, 32, 120, 41, 94, 50, 32, 45, 32, 40, 49, 32, 45, 32, 120, 41, 59, 10, 111, 117, 116, 32, 97, 59, 10]⟩
theorem text12 : textZ p12 [(awA, x12)] = d12 := by
  unfold textZ progP letsP letP
  rw [sh12, rat1, rat2, dec2]
  kernel_rfl
theorem print12 : PrintS p12 d12 := .inl ⟨_, right12, text12.symm⟩
theorem expr12 : ExprS p12 2 ⟨#[50, 32, 42, 32, 120]⟩ := by
  refine .inl ⟨by rw [tZ_right right12]; rfl, by decide, by decide, m12, ⟨⟨by decide, by decide, ok_num (n := 2) (by decide), nameZ_X⟩, 0, ?_, rfl⟩, by decide, ?_⟩
  · intro j c h
    rw [Nat.zero_add]
    have hj : j < 3 := (List.getElem?_eq_some_iff.1 h).1
    rcases (show j = 0 ∨ j = 1 ∨ j = 2 by omega) with rfl | rfl | rfl <;> exact h
  · have e : shP m12 = [tk 1 (ratS 2), gp, tk 2 starS, gp, tk 0 awX] := rfl
    rw [e, rat2]
    rfl
theorem awake12_any {I : Hp} (hT : Tabs I) (hM : Mx I) (hE : Errs I) (hP : P10 I) : Fun Tryz.prog 20 [] I [] (fun v _ _ => v = .bool true) := by
  have hpa := parse_any s12 hT hM hE (by decide)
  rw [parse12] at hpa
  intro w hw
  refine enter0 _ Tryz.func20 rfl Tryz.ntmps20 ?_ hw;refine sR ?_;refine oV ?_;refine nS ?_;refine oI Tryz.call27 rfl hpa ?_;rintro _ I1 hx1 ⟨vi, vl, vo, va, ns, rfl, hp, hf⟩;refine oV ?_
  have hp : ProgV I1 vi vl vo va p12 ns := hp
  have hsi := hp.si
  have hsl := hp.sl
  have hso := hp.so
  have hsa := hp.sa
  have hf' : ∀ o ∈ ns, o.c.few 3000 := fun o ho => ⟨Nat.le_trans (hf o ho).1 (by decide), Nat.le_trans (hf o ho).2 (by decide)⟩
  have hnl : ns.length ≤ 1000 := by
    have h9 : ns.length = p12.all.length := by rw [← hp.eq, List.length_map]
    rw [h9]; decide
  have h1 := showPrint_any vi vl vo va p12 ns d12 hp hf' hnl (hP.le hx1.le) print12
  have h2 := showExpr_any vi vl vo va p12 ns 2 ⟨#[50, 32, 42, 32, 120]⟩ hp hf' hnl (hP.le hx1.le) expr12
  iterate 3 refine oV ?_
  refine o_alloc trivial rfl Tryz.zeroValue26 rfl (fun b1 => ?_);refine o_alloc trivial rfl Tryz.zeroValue48 rfl (fun b2 => ?_);refine oS Tryz.sizeOf26 ?_;refine oS Tryz.sizeOf48 ?_;refine oV ?_;refine nS ?_;iterate 2 refine oV ?_
  refine' o_and trivial trivial rfl rfl rfl rfl rfl rfl rfl rfl (fun hb11 => ?_) ?_;rotate_left
  ·
   have fb11 := hb11
   try simp only [bl] at fb11
   refine o_loadA (wS rfl rfl hb11) rfl Tryz.isAgg26 Tryz.sizeOf26 rfl (by repeat constructor) (by repeat constructor) ?_;refine o_callQ (wS rfl rfl hb11) rfl Tryz.call23 rfl h1 ?_;refine gV hb11 ?_;refine oN ?_;exact joins rfl
  refine' o_and trivial trivial rfl rfl rfl rfl rfl rfl rfl rfl (fun hb16 => ?_) ?_;rotate_left
  ·
   have fb16 := hb16
   try simp only [bl] at fb16
   refine o_loadA (wS rfl rfl hb16) rfl Tryz.isAgg26 Tryz.sizeOf26 rfl (by repeat constructor) (by repeat constructor) ?_;refine o_callQ (wS rfl rfl hb16) rfl Tryz.call25 rfl h2 ?_;refine gV hb16 ?_;refine oN ?_;exact joins rfl
  refine oV ?_;refine nE ?_;refine ret1 rfl rfl ?_;refine leaf hx1 (List.nil_sublist _) (congrArg Value.bool ?_); kernel_rfl
theorem fewC_of {p : ProgC} {ns : List NodeV} (h : fewP p 40 = true) (he : ns.map NodeV.c = p.all) : (∀ o ∈ ns, o.c.few 3000) ∧ ns.length ≤ 1000 ∧ ∀ o ∈ ns, o.c.few 2000000 := by
  obtain ⟨m1, m2, m3, m4, m5, m6⟩ := few_of h he
  refine ⟨fun o ho => few_up (m5 o ho) (by decide), ?_, fun o ho => few_up (m5 o ho) (by decide)⟩
  have : ns.length = p.all.length := by rw [← he, List.length_map]
  omega
def Fr (l : List UInt8) : Prop := ∀ b ∈ l, b ≠ 40 ∧ b ≠ 41
theorem fr_get {s : ByteArray} (h : ∀ j, j < s.size → (s.get! j).toNat ≠ 40 ∧ (s.get! j).toNat ≠ 41) : Fr s.data.toList := fun b hb => by
  obtain ⟨j, hj⟩ := List.mem_iff_getElem?.1 hb
  have hl := (List.getElem?_eq_some_iff.1 hj).1
  have hlt : j < s.size := by simpa using hl
  have h1 := get_toList hlt
  rw [toList_data, hj] at h1
  rw [Option.some.inj h1]
  have h2 := h j hlt
  exact ⟨fun e => h2.1 (by rw [e]; rfl), fun e => h2.2 (by rw [e]; rfl)⟩
theorem fr_app {a b : List UInt8} (h1 : Fr a) (h2 : Fr b) : Fr (a ++ b) := fun x hx => (List.mem_append.1 hx).elim (h1 x) (h2 x)
theorem fr_dec (n : Nat) : Fr (decS n).data.toList := fr_get fun j hj => by have := decS_dg n j hj; omega
theorem fr_rat (q : Rat) : Fr (ratS q).data.toList := by
  unfold ratS
  split
  · exact fr_dec _
  · simp only [ByteArray.data_append, Array.toList_append]
    refine fr_app (fr_app (fr_dec _) (fun b hb => ?_)) (fr_dec _)
    have hb : b ∈ [(124 : UInt8)] := hb
    rw [List.mem_singleton.1 hb]; exact ⟨by decide, by decide⟩
theorem name_free (s : ByteArray) : ∀ (f i : Nat), s.size ≤ i + f → i ≤ s.size → nameGo s (s.size - i) i = true → ∀ j, i ≤ j → j < s.size → (s.get! j).toNat ≠ 40 ∧ (s.get! j).toNat ≠ 41 := by
  intro f
  induction f with
  | zero => intro i h1 h2 _ j h3 h4; omega
  | succ f ih =>
    intro i h1 h2 hn j h3 h4
    have hi : i < s.size := by omega
    have hw := width_in s i hi
    have hp := width_pos s i
    have hno : ¬ ((kindZ (Utf8.decode s i).1 ≠ 1 ∧ kindZ (Utf8.decode s i).1 ≠ 2) ∨ (kindZ (Utf8.decode s i).1 = 2 ∧ i = 0)) := fun h => by
      rw [nameGo_no hi h] at hn; cases hn
    rw [nameGo_step hi hno] at hn
    by_cases hj : i + (Utf8.decode s i).2 ≤ j
    · exact ih _ (by omega) hw hn j hj h4
    · by_cases hji : j = i
      · subst hji
        by_cases ha : (s.get! j).toNat < 128
        · rw [Go.Tw.decode_ascii ha] at hno
          refine ⟨fun e => ?_, fun e => ?_⟩
          · rw [e] at hno; exact hno (.inl ⟨by decide, by decide⟩)
          · rw [e] at hno; exact hno (.inl ⟨by decide, by decide⟩)
        · omega
      · have := cont_byte (s := s) (i := i) (j := j) (by omega) (by omega)
        omega
theorem fr_name {s : ByteArray} (h : nameZ s = true) : Fr s.data.toList := by
  obtain ⟨h1, h2, _, h4⟩ := name_parts h
  exact fr_get fun j hj => name_free s s.size 0 (by omega) (Nat.zero_le _) h4 j (Nat.zero_le _) hj
theorem cn_free {b : UInt8} {l : List UInt8} (h : Fr l) (hb : b = 40 ∨ b = 41) : cn b l = 0 := by
  unfold cn
  rw [List.filter_eq_nil_iff.2]
  · rfl
  · intro x hx
    have := h x hx
    rcases hb with rfl | rfl
    · simpa using this.1
    · simpa using this.2
structure Bal (l : List UInt8) (n : Nat) : Prop where
  up : cn 40 l = n
  down : cn 41 l = n
  pre : ∀ k, cn 41 (l.take k) ≤ cn 40 (l.take k)
theorem bal_free {l : List UInt8} (h : Fr l) : Bal l 0 :=
  ⟨cn_free h (.inl rfl), cn_free h (.inr rfl), fun k => by rw [cn_free (fun b hb => h b (List.mem_of_mem_take hb)) (.inr rfl)]; exact Nat.zero_le _⟩
theorem bal_app {a b : List UInt8} {m n : Nat} (h1 : Bal a m) (h2 : Bal b n) : Bal (a ++ b) (m + n) :=
  ⟨by rw [cn_app, h1.up, h2.up], by rw [cn_app, h1.down, h2.down], fun k => by
    rw [List.take_append, cn_app, cn_app]
    exact Nat.add_le_add (h1.pre k) (h2.pre _)⟩
theorem bal_brk {a : List UInt8} {m : Nat} (h : Bal a m) : Bal (40 :: (a ++ [41])) (m + 1) := by
  have e : cn 40 (a ++ [41]) = m ∧ cn 41 (a ++ [41]) = m + 1 := by
    rw [cn_app, cn_app, h.up, h.down]; exact ⟨rfl, rfl⟩
  refine ⟨by rw [cn_cons, if_pos rfl, e.1]; omega, by rw [cn_cons, if_neg (by decide), e.2]; omega, fun k => ?_⟩
  cases k with
  | zero => exact Nat.le_refl _
  | succ k =>
    rw [List.take_succ_cons, cn_cons, cn_cons, if_neg (by decide), if_pos rfl, List.take_append, cn_app, cn_app]
    have h1 := h.pre k
    have h2 : cn 41 ([(41 : UInt8)].take (k - a.length)) ≤ 1 := by
      cases k - a.length with
      | zero => decide
      | succ m => show cn 41 (41 :: List.take m []) ≤ 1; rw [List.take_nil]; decide
    omega
def tl (l : List Tok) : List UInt8 := (txZ l).data.toList
theorem tl_app (a b : List Tok) : tl (a ++ b) = tl a ++ tl b := by unfold tl; rw [txZ_app, ByteArray.data_append, Array.toList_append]
theorem tl_cons (t : Tok) (r : List Tok) : tl (t :: r) = t.text.data.toList ++ tl r := by unfold tl; rw [txZ, ByteArray.data_append, Array.toList_append]
theorem tl_nil : tl [] = [] := rfl
theorem tl_one (t : Tok) : tl [t] = t.text.data.toList := by rw [tl_cons, tl_nil, List.append_nil]
theorem bal_part {m : Bool} {l : List Tok} {n : Nat} (h : Bal (tl l) n) : Bal (tl (brk m l)) (n + pc m) := by
  cases m with
  | false => exact h
  | true =>
    have e : tl (brk true l) = 40 :: (tl l ++ [41]) := by
      show tl (tk 2 lpar :: (l ++ [tk 2 rpar])) = _
      rw [tl_cons, tl_app, tl_one]
      rfl
    rw [e]
    exact bal_brk h
theorem sign_free (k : Int) : Fr (signS k).data.toList := by
  have h : ∀ b : UInt8, b = 43 ∨ b = 45 ∨ b = 42 ∨ b = 47 → Fr [b] := fun b hb x hx => by
    rw [List.mem_singleton.1 hx]
    rcases hb with rfl | rfl | rfl | rfl <;> exact ⟨by decide, by decide⟩
  unfold signS
  split
  · exact h 43 (by simp)
  · split
    · exact h 45 (by simp)
    · split
      · exact h 42 (by simp)
      · exact h 47 (by simp)
theorem gp_free : Fr gp.text.data.toList := fun b hb => by
  have hb : b ∈ [(32 : UInt8)] := hb
  rw [List.mem_singleton.1 hb]; exact ⟨by decide, by decide⟩
theorem exp_free (e : Int) : Fr (tl (expP e)) := by
  have h1 : Fr (tl [tk 1 (decS e.natAbs)]) := by rw [tl_one]; exact fr_dec _
  unfold expP
  split
  · rw [tl_app]
    refine fr_app ?_ h1
    rw [tl_one]
    exact sign_free 3
  · exact h1
theorem sh_bal : ∀ (x : Ex), x.ok → Bal (tl (shP x)) (inn x) := by
  intro x
  induction x with
  | ref t => intro h; show Bal (tl [tk 0 t]) 0; rw [tl_one]; exact bal_free (fr_name h)
  | num q => intro h; show Bal (tl [tk 1 (ratS q)]) 0; rw [tl_one]; exact bal_free (fr_rat q)
  | neg x ih =>
    intro h
    rw [shP, tl_cons]
    have := bal_app (bal_free (sign_free 3)) (bal_part (m := decide (bindE x < 3)) (ih h))
    rw [Nat.zero_add] at this
    exact this
  | pow x e ih =>
    intro h
    rw [shP, tl_app, tl_cons]
    have hc : Fr (tk 2 Go.Tw.caret).text.data.toList := fun b hb => by
      have hb : b ∈ [(94 : UInt8)] := hb
      rw [List.mem_singleton.1 hb]; exact ⟨by decide, by decide⟩
    have h9 := bal_app (bal_part (m := decide (bindE x < 5)) (ih h.1)) (bal_free (fr_app hc (exp_free e)))
    rw [Nat.add_zero] at h9
    exact h9
  | bin k x y ih1 ih2 =>
    intro h
    rw [shP, tl_app, tl_cons, tl_cons, tl_cons]
    have h1 := bal_part (m := decide (bindE x < if 4 ≤ k then 2 else 1)) (ih1 h.2.2.1)
    have h2 := bal_part (m := decide (bindE y < (if 4 ≤ k then 2 else 1) + 1)) (ih2 h.2.2.2)
    have h3 := bal_app (bal_free (fr_app gp_free (fr_app (sign_free k) gp_free))) h2
    rw [Nat.zero_add] at h3
    have h4 := bal_app h1 h3
    simp only [List.append_assoc] at h4
    exact h4
theorem first_zero (g : Nat → Int) (hg : ∀ j, g j - 1 ≤ g (j + 1)) : ∀ (n a : Nat), 0 < g a → g (a + n) ≤ 0 → ∃ t, a ≤ t ∧ t < a + n ∧ (∀ j, a ≤ j → j ≤ t → 0 < g j) ∧ g (t + 1) = 0
  | 0, a, h1, h2 => by rw [Nat.add_zero] at h2; omega
  | n + 1, a, h1, h2 => by
    by_cases h3 : g (a + 1) ≤ 0
    · refine ⟨a, Nat.le_refl _, by omega, fun j j1 j2 => ?_, ?_⟩
      · rw [show j = a by omega]; exact h1
      · have := hg a; omega
    · obtain ⟨t, k1, k2, k3, k4⟩ := first_zero g hg n (a + 1) (by omega) (by rw [show a + 1 + n = a + (n + 1) by omega]; exact h2)
      refine ⟨t, by omega, by omega, fun j j1 j2 => ?_, k4⟩
      by_cases hj : j = a
      · rw [hj]; exact h1
      · exact k3 j (by omega) j2
def gapZ (l : List UInt8) (f j : Nat) : Int := (cn 40 ((l.take j).drop f) : Int) - cn 41 ((l.take j).drop f)
theorem take_step {l : List UInt8} {f j : Nat} {b : UInt8} (hf : f ≤ j) (h : l[j]? = some b) : (l.take (j + 1)).drop f = (l.take j).drop f ++ [b] := by
  have hl := (List.getElem?_eq_some_iff.1 h).1
  rw [List.take_add_one, h, Option.toList_some, List.drop_append_of_le_length (by rw [List.length_take]; omega)]
theorem gap_step {l : List UInt8} {f j : Nat} {b : UInt8} (hf : f ≤ j) (h : l[j]? = some b) : gapZ l f (j + 1) = gapZ l f j + (if b = 40 then 1 else 0) - (if b = 41 then 1 else 0) := by
  unfold gapZ
  rw [take_step hf h, cn_app, cn_app]
  have e : ∀ c : UInt8, cn c [b] = if b = c then 1 else 0 := fun c => by rw [cn_cons]; rfl
  rw [e, e]
  split <;> split <;> omega
theorem gap_out {l : List UInt8} {f j : Nat} (h : l.length ≤ j) : gapZ l f (j + 1) = gapZ l f j := by
  unfold gapZ
  rw [List.take_of_length_le h, List.take_of_length_le (by omega)]
structure Pair (l : List UInt8) (f t : Nat) : Prop where
  lt : f < t
  in_ : t < l.length
  shut : l[t]? = some 41
  inner : ∀ j, f + 1 ≤ j → j ≤ t → 0 < gapZ l f j
  zero : gapZ l f (t + 1) = 0
theorem gap_all (l : List UInt8) (f : Nat) : gapZ l f f = 0 := by
  unfold gapZ
  rw [List.drop_of_length_le (by rw [List.length_take]; omega)]
  rfl
theorem pair_of {l : List UInt8} {n f : Nat} (h : Bal l n) (hf : l[f]? = some 40) : ∃ t, Pair l f t := by
  have hlt := (List.getElem?_eq_some_iff.1 hf).1
  have h1 : gapZ l f (f + 1) = 1 := by rw [gap_step (Nat.le_refl _) hf, gap_all]; rfl
  have hend : gapZ l f l.length ≤ 0 := by
    have e := List.take_append_drop f l
    have e1 := congrArg (cn 40) e
    have e2 := congrArg (cn 41) e
    rw [cn_app, h.up] at e1
    rw [cn_app, h.down] at e2
    have := h.pre f
    unfold gapZ
    rw [List.take_length]
    omega
  have hstep : ∀ j, gapZ l f (f + 1 + j) - 1 ≤ gapZ l f (f + 1 + j + 1) := fun j => by
    by_cases hj : f + 1 + j < l.length
    · rw [gap_step (by omega) (List.getElem?_eq_getElem hj)]
      split <;> split <;> omega
    · rw [gap_out (by omega)]; omega
  obtain ⟨t, k1, k2, k3, k4⟩ := first_zero (fun j => gapZ l f (f + 1 + j)) hstep (l.length - (f + 1)) 0 (by show 0 < gapZ l f (f + 1 + 0); rw [Nat.add_zero, h1]; decide) (by show gapZ l f (f + 1 + (0 + (l.length - (f + 1)))) ≤ 0; rw [show f + 1 + (0 + (l.length - (f + 1))) = l.length by omega]; exact hend)
  have hin : f + 1 + t < l.length := by omega
  have hg := gap_step (l := l) (f := f) (j := f + 1 + t) (by omega) (List.getElem?_eq_getElem hin)
  have k3t : 0 < gapZ l f (f + 1 + t) := k3 t (by omega) (Nat.le_refl _)
  have k4 : gapZ l f (f + 1 + (t + 1)) = 0 := k4
  rw [show f + 1 + (t + 1) = f + 1 + t + 1 by omega] at k4
  rw [k4] at hg
  refine ⟨f + 1 + t, by omega, hin, ?_, fun j j1 j2 => ?_, k4⟩
  · rw [List.getElem?_eq_getElem hin]
    by_cases hb : l[f + 1 + t] = 41
    · rw [hb]
    · exfalso
      rw [if_neg hb] at hg
      split at hg <;> omega
  · have := k3 (j - (f + 1)) (by omega) (by omega)
    rwa [show f + 1 + (j - (f + 1)) = j by omega] at this
theorem pair_cut {l : List UInt8} {f t : Nat} (hf : l[f]? = some 40) (hp : Pair l f t) : cn 40 (l.take f ++ (l.take t).drop (f + 1) ++ l.drop (t + 1)) + 1 = cn 40 l ∧ 1 ≤ cn 41 (l.drop (f + 1)) := by
  have hlt := (List.getElem?_eq_some_iff.1 hf).1
  have h1 := hp.lt
  have h2 := hp.in_
  have e1 : l.drop f = 40 :: l.drop (f + 1) := by rw [List.drop_eq_getElem_cons hlt, (List.getElem?_eq_some_iff.1 hf).2]
  have e2 : l.drop t = 41 :: l.drop (t + 1) := by rw [List.drop_eq_getElem_cons h2, (List.getElem?_eq_some_iff.1 hp.shut).2]
  have e3 : l.drop (f + 1) = (l.take t).drop (f + 1) ++ l.drop t := by
    conv => lhs; rw [← List.take_append_drop t l]
    rw [List.drop_append_of_le_length (by rw [List.length_take]; omega)]
  have e4 : cn 40 l = cn 40 (l.take f) + (1 + (cn 40 ((l.take t).drop (f + 1)) + (0 + cn 40 (l.drop (t + 1))))) := by
    conv => lhs; rw [← List.take_append_drop f l]
    rw [cn_app, e1, cn_cons, if_pos rfl, e3, cn_app, e2, cn_cons, if_neg (by decide)]
  refine ⟨by rw [cn_app, cn_app]; omega, ?_⟩
  rw [e3, cn_app, e2, cn_cons, if_pos rfl]
  omega
def aqQ : ByteArray := ⟨#[113]⟩
theorem nameZ_Q : nameZ aqQ = true := by kernel_rfl
def hdQ : ByteArray := ⟨#[105, 110, 32, 120, 59, 32, 108, 101, 116, 32, 113, 32, 61, 32]⟩
def tlQ : ByteArray := ⟨#[59, 32, 111, 117, 116, 32, 120, 59]⟩
def pQ (x : Ex) : ProgC := ⟨[awX], (laid [(aqQ, x)] 0).1, [awX], (laid [(aqQ, x)] 0).2⟩
theorem rightQ {x : Ex} (h : x.ok) (h1 : x.h ≤ 60) (h2 : x.n ≤ 400) : RightP (pQ x) [(aqQ, x)] where
  lets := rfl
  all := rfl
  ok := fun a ha => by rw [List.mem_singleton.1 ha]; exact ⟨nameZ_Q, h⟩
  ins := ⟨fun s hs => by rw [List.mem_singleton.1 hs]; exact nameZ_X, Nat.le_refl 1, by show 1 ≤ 40; decide⟩
  outs := ⟨fun s hs => by rw [List.mem_singleton.1 hs]; exact nameZ_X, Nat.le_refl 1, by show 1 ≤ 40; decide⟩
  few := ⟨by show 1 ≤ 40; decide, by show (x.nd 0 ++ []).length ≤ 400; rw [List.append_nil, x.nd_len]; exact h2⟩
  low := fun a ha => by rw [List.mem_singleton.1 ha]; exact h1
def pcsQ (x : Ex) : List Tok := tk 0 inS :: gp :: tk 0 awX :: tk 2 semiS :: gp :: tk 0 letS :: gp :: tk 0 aqQ :: gp :: tk 2 equalS :: gp :: (shP x ++ [tk 2 semiS, gp, tk 0 outS, gp, tk 0 awX, tk 2 semiS])
theorem textQ (x : Ex) : hdQ ++ txZ (shP x) ++ tlQ = txZ (pcsQ x) := by
  unfold pcsQ
  have e1 : hdQ = (tk 0 inS).text ++ (gp.text ++ ((tk 0 awX).text ++ ((tk 2 semiS).text ++ (gp.text ++ ((tk 0 letS).text ++ (gp.text ++ ((tk 0 aqQ).text ++ (gp.text ++ ((tk 2 equalS).text ++ gp.text))))))))) := rfl
  have e2 : tlQ = txZ [tk 2 semiS, gp, tk 0 outS, gp, tk 0 awX, tk 2 semiS] := rfl
  rw [e1, e2]
  simp only [tx_one, txZ_app, ByteArray.append_assoc]
theorem parseQ {x : Ex} (h : x.ok) (h1 : x.h ≤ 60) (h2 : x.n ≤ 400) : parseZ (hdQ ++ txZ (shP x) ++ tlQ) = ⟨pQ x, 0, 0, 0⟩ := by
  have hp : Pieces (pcsQ x) := by
    have g : ∀ {s : ByteArray} {r}, Good (tk 0 s) → Pieces (gp :: r) → Pieces (tk 0 s :: gp :: r) := fun hg h => good_tk hg (by show (0 : Int) ≠ 3; decide) (.inl gap_gp) h
    have g2 : ∀ {s t : ByteArray} {r}, Good (tk 0 s) → t = semiS → Pieces (tk 2 t :: r) → Pieces (tk 0 s :: tk 2 t :: r) := fun hg ht h => good_tk hg (by show (0 : Int) ≠ 3; decide) (.inr (sg_of (by simp [ht]))) h
    have hend : Pieces [tk 2 semiS, gp, tk 0 outS, gp, tk 0 awX, tk 2 semiS] := sg_tk (by simp) (gp_tk (g (good_key (by simp)) (gp_tk (g2 (good_name nameZ_X) rfl (sg_tk (by simp) trivial)))))
    exact g (good_key (by simp)) (gp_tk (g2 (good_name nameZ_X) rfl (sg_tk (by simp) (gp_tk (g (good_key (by simp)) (gp_tk (g (good_name nameZ_Q) (gp_tk (sg_tk (by simp) (gp_tk (sh_pcs x h _ (.inr (sg_of (by simp))) hend)))))))))))
  have hs := sh_size x h
  have hl := sh_len x
  have hsz : (txZ (pcsQ x)).size ≤ 60000 := by
    rw [← textQ, ByteArray.size_append, ByteArray.size_append]
    show 14 + _ + 8 ≤ _
    omega
  have hln : (tksZ (pcsQ x)).length ≤ 4000 := by
    refine Nat.le_trans (tks_len _) ?_
    simp only [pcsQ, List.length_cons, List.length_append, List.length_nil]
    omega
  obtain ⟨us, k1, k2⟩ := lex_pcs hp hsz hln
  rw [textQ]
  refine parse_of (by rw [k1]) ?_ (rightQ h h1 h2)
  rw [k1]
  dsimp only
  have e : tksZ (pcsQ x) = progQ (pQ x).ins (pQ x).outs [(aqQ, x)] := by
    unfold pcsQ
    rw [tks_cons (by show (0 : Int) ≠ 3; decide), tks_gap rfl, tks_cons (by show (0 : Int) ≠ 3; decide), tks_cons (by show (2 : Int) ≠ 3; decide), tks_gap rfl, tks_cons (by show (0 : Int) ≠ 3; decide), tks_gap rfl, tks_cons (by show (0 : Int) ≠ 3; decide), tks_gap rfl, tks_cons (by show (2 : Int) ≠ 3; decide), tks_gap rfl, tksZ_app]
    unfold progQ letsQ letQ
    simp only [List.append_nil, letsQ, List.cons_append, List.append_assoc]
    rfl
  rw [k2, e, progQ_st]
theorem needs_law {x : Ex} (hx : x.ok) {T : ByteArray} (hs : T.size ≤ 4000) (hc : cn 40 T.data.toList < inn x) (he : (parseZ T).err = 0) : pQ x ≠ (parseZ T).p := by
  intro hp
  have hf := lexZ_fine (s := T) (by omega)
  have hl := lexZ_lp (s := T) hs
  have hP := prgZ_is (lexZ T).toks
  unfold parseZ at he hp
  split at he
  · rename_i h; exact h he
  · rename_i h
    rw [if_neg h] at hp
    generalize prgZ (lexZ T).toks = o at he hp hP
    cases o with
    | bad r =>
      cases r with
      | nil => exact absurd he (by show ¬ (5 : Int) = 0; decide)
      | cons t r => exact absurd he (by show ¬ (5 : Int) = 0; decide)
    | ok p =>
      unfold parseT at he hp
      dsimp only at he hp
      split at he
      · rename_i ht
        rw [if_pos ht] at hp
        dsimp only at hp
        obtain ⟨l, h1, h2⟩ := Prg.cnt hP hf.ok
        rw [← hp] at h1
        have e1 := h1.lets
        have e2 := h1.all
        cases l with
        | nil => cases e1
        | cons a l =>
          obtain ⟨s, y⟩ := a
          cases l with
          | cons c l => have := congrArg List.length e1; simp [pQ, laid] at this
          | nil =>
            have e3 : x.nd 0 ++ [] = y.nd 0 ++ [] := e2
            rw [List.append_nil, List.append_nil] at e3
            have e4 := nd_inj x y 0 hx (h1.ok _ List.mem_cons_self).2 e3
            subst e4
            have e5 : innAll [(s, x)] = inn x := by simp [innAll]
            rw [e5] at h2
            omega
      · exact absurd he (by show ¬ (4 : Int) = 0; decide)
def opsZ (L : List UInt8) : Nat → List Nat
  | 0 => []
  | i + 1 => if L[i]? = some 40 then opsZ L i ++ [i] else opsZ L i
theorem ops_yes {L : List UInt8} {i : Nat} (h : L[i]? = some 40) : opsZ L (i + 1) = opsZ L i ++ [i] := if_pos h
theorem ops_no {L : List UInt8} {i : Nat} (h : L[i]? ≠ some 40) : opsZ L (i + 1) = opsZ L i := if_neg h
theorem ops_mem {L : List UInt8} : ∀ {i j : Nat}, j ∈ opsZ L i → L[j]? = some 40
  | 0, j, h => by cases h
  | i + 1, j, h => by
    by_cases h1 : L[i]? = some 40
    · rw [ops_yes h1] at h
      rcases List.mem_append.1 h with h | h
      · exact ops_mem h
      · rw [List.mem_singleton.1 h]; exact h1
    · rw [ops_no h1] at h; exact ops_mem h
theorem ops_len {L : List UInt8} : ∀ (i : Nat), (opsZ L i).length ≤ i
  | 0 => Nat.le_refl _
  | i + 1 => by
    have := ops_len (L := L) i
    by_cases h1 : L[i]? = some 40
    · rw [ops_yes h1, List.length_append]; show _ + 1 ≤ _; omega
    · rw [ops_no h1]; omega
theorem cn_le (b : UInt8) (l : List UInt8) : cn b l ≤ l.length := List.length_filter_le _ _
theorem byte40 {b : UInt8} (h : (b.toNat : Int) = 40) : b = 40 := by
  apply UInt8.toNat_inj.1
  show b.toNat = 40
  omega
theorem byte41 {b : UInt8} (h : (b.toNat : Int) = 41) : b = 41 := by
  apply UInt8.toNat_inj.1
  show b.toNat = 41
  omega
theorem byte_at {s : ByteArray} {i : Nat} (h : i < s.size) : s.data.toList[i]? = some (s.get! i) := by
  rw [← toList_data]; exact get_toList h
theorem ext_list (s : ByteArray) (i j : Nat) : (s.extract i j).data.toList = (s.data.toList.take j).drop i := by
  rw [ByteArray.data_extract, Array.toList_extract, List.extract_eq_take_drop]
  rw [List.drop_take]
theorem ShowNeeds_any (vi vl vo va : Value) (p : ProgC) (ns : List NodeV) (i0 k0 : Int) {I : Hp} (hp : ProgV I vi vl vo va p ns) (hi0 : 0 ≤ i0 ∧ i0 ≤ 255) (hk0 : 0 ≤ k0 ∧ k0 ≤ 255) (hT : Tabs I) (hM : Mx I) (hE : Errs I) (hP : P10 I) : Fun Tryz.prog 9 [.agg #[vi, vl, vo, va], .int .u8 i0, .int .u8 k0] I [] (fun v _ _ => v = .bool true) := by
  have hsi := hp.si
  have hsl := hp.sl
  have hso := hp.so
  have hsa := hp.sa
  have hla := nds_len ns
  have hal : p.all.length = ns.length := by rw [← hp.eq, List.length_map]
  intro w hw
  refine enter3 _ Tryz.func9 rfl Tryz.ntmps9 rfl ?_ hw;refine sR ?_;refine o_box trivial rfl rfl rfl (fun b3 => ?_);refine oV ?_;refine nS ?_;refine oQ Tryz.call20 rfl (awake12_any hT hM hE hP) ?_;refine oV ?_;refine nS ?_;refine oA Tryz.isAgg26 Tryz.sizeOf26 ?_;refine oQ Tryz.call16 rfl (rrFew_any vi vl vo va p ns 40 hp) ?_;refine oV ?_;refine nU ?_;iterate 2 refine oV ?_
  refine' o_or trivial trivial rfl rfl rfl rfl rfl rfl rfl rfl (fun hb31 => ?_) ?_;rotate_left
  ·
   have fb31 := hb31
   try simp only [bl] at fb31
   obtain ⟨g1, g2, g3⟩ := fewC_of (by simpa using hb31) hp.eq
   refine o_loadA (wS rfl rfl hb31) rfl Tryz.isAgg26 Tryz.sizeOf26 rfl (by repeat constructor) (by repeat constructor) ?_;refine o_callQ (wS rfl rfl hb31) rfl Tryz.call26 rfl (trRight_any vi vl vo va p ns hp g3) ?_;refine gV hb31 ?_;refine oN ?_;exact joins rfl
  refine' o_or trivial trivial rfl rfl rfl rfl rfl rfl rfl rfl (fun hb36 => ?_) ?_;rotate_left
  ·
   have fb36 := hb36
   try simp only [bl] at fb36
   refine gF hb36 3 Tryz.underlying26 Tryz.sizeOf24 ?_;refine gL hb36 Tryz.isAgg24 ?_;refine o_lenSlc (wS rfl rfl hb36) rfl Tryz.underlying24 rfl (hsa) ?_;refine gV hb36 ?_;refine oN ?_;exact joins rfl
  refine nT ?_;refine cC rfl (fun h1 => ?_) (fun h1 => ?_)
  ·
   have f1 := h1;try simp only [bl] at f1
   refine sR ?_;iterate 2 refine oV ?_
   refine nF ?_;refine ret1 rfl rfl ?_;exact leaf0 rfl
  have f1 := h1;try simp only [bl] at f1
  obtain ⟨⟨k1, k2⟩, k3⟩ : (fewP p 40 = true ∧ (tZ p).isSome = true) ∧ ns.length ≠ 0 := by
    rw [hla] at f1
    exact ⟨⟨by simpa using f1.1.1, by simpa using f1.1.2⟩, by omega⟩
  obtain ⟨g1, g2, g3⟩ := fewC_of k1 hp.eq
  obtain ⟨l, hl⟩ := tZ_iff.1 k2
  obtain ⟨m1, _⟩ := few_of k1 hp.eq
  have hmod : 0 ≤ i0 % ((nds ns).length : Int) ∧ i0 % ((nds ns).length : Int) < p.all.length := by
    rw [hal, hla]
    exact ⟨Int.emod_nonneg _ (by omega), Int.emod_lt_of_pos _ (by omega)⟩
  obtain ⟨x, hx, hxh⟩ := hl.node hmod.1 hmod.2
  have hes : ExprS p (i0 % ((nds ns).length : Int)) (txZ (shP x)) := .inl ⟨k2, hmod.1, hmod.2, x, hx, hxh, rfl⟩
  have hxn := hx.few
  have hxs := sh_size x hx.ok
  have hbal := sh_bal x hx.ok
  refine cK (tC (cS ?_));refine c_quiet (by kernel_rfl) (by kernel_rfl) (fun _ h => h.drawn) ?_;refine oA Tryz.isAgg26 Tryz.sizeOf26 ?_;refine oV ?_
  first | refine o_convIn trivial rfl Tryz.underlying5 Tryz.underlying3 rfl (by rw [IntWalk.i64_in _ (by omega)]) ?_ | refine o_conv trivial rfl Tryz.underlying5 Tryz.underlying3 rfl ?_
  refine oF 3 Tryz.underlying26 Tryz.sizeOf24 ?_;refine oL Tryz.isAgg24 ?_;refine o_lenSlc trivial rfl Tryz.underlying24 rfl (hsa) ?_;refine o_rem trivial rfl rfl rfl (by omega) ?_;refine oQ Tryz.call25 rfl (showExpr_any vi vl vo va p ns _ (txZ (shP x)) hp g1 g2 hP hes) ?_;refine oV ?_;refine oN (tC (cS ?_))
  obtain ⟨s, hs⟩ : ∃ s, s = txZ (shP x) := ⟨_, rfl⟩
  obtain ⟨L, hL⟩ : ∃ L, L = s.data.toList := ⟨_, rfl⟩
  have hLl : L.length = s.size := by rw [hL]; simp
  have hat : ∀ {i : Nat}, i < s.size → L[i]? = some (s.get! i) := fun {i} h => by rw [hL]; exact byte_at h
  have hbal : Bal L (inn x) := by rw [hL, hs]; exact hbal
  rw [← hs]
  rw [← hs] at hxs
  have hss : s.size ≤ 3240 := by omega
  refine cR ?_;refine oV ?_;refine nU ?_;refine oV ?_;refine oN (tC (cB ?_));refine c_loop (ι := Nat × Value) [2, 7, 9] (.cons rfl (.cons rfl (.cons rfl .nil))) (fun z => s.size - z.1) (fun z E0 => (10, z.2) :: (11, .int .i64 (z.1 : Nat)) :: E0) (fun z => St w [] I [.row z.2 3 1 (opsZ L z.1).length (nvs (opsZ L z.1)), .box b3 (.cells #[vi, vl, vo, va] 26 (0, 0))]) (fun z => z.1 ≤ s.size) ((0, .slice none 0 0)) (sC rfl (sC rfl (sC rfl (sC rfl (sC rfl sN))))) (fun _ h => (h.nilRow 3 1).sort (by repeat constructor)) (Nat.zero_le _) ?_;rintro ⟨i, u⟩ hi
  try dsimp only
  simp only at hi; have hol := ops_len (L := L) i
  refine cS (sR ?_);iterate 2 refine oV ?_
  refine o_lenS trivial rfl Tryz.underlying9 rfl ?_;refine oV ?_;refine nT ?_;refine cC rfl (fun h2 => ?_) (fun h2 => ?_)
  ·
   have f2 := h2;try simp only [bl] at f2
   have hib := hat (i := i) (by omega)
   refine cK (tC (cS (cB (sR ?_))));iterate 2 refine oV ?_
   refine o_idxS trivial rfl Tryz.underlying9 rfl rfl (by omega) ?_;refine oV ?_;refine nT ?_;refine cC rfl (fun h3 => ?_) (fun h3 => ?_)
   ·
    have f3 := h3;try simp only [bl] at f3
    have h40 : L[i]? = some 40 := by rw [hib, byte40 (b := s.get! i) (by simpa using f3)]
    have hmore := ops_yes h40
    refine cR ?_;iterate 2 refine oV ?_
    refine oB Tryz.underlying52 Tryz.sizeOf3 Tryz.zeroValue3 fun b63 => ?_;refine oD Tryz.underlying52 elem3 fun v64 => ?_;refine oV ?_;refine oN (blk_n (tC (cR ?_)));refine oV ?_
    first | (refine o_add trivial rfl rfl rfl ?_ ?_; (omega)) | refine oV ?_
    refine oV ?_;refine oN ?_
    first | exact again (i + 1, v64) (sC rfl (sC rfl (sC rfl (sC rfl (sC rfl sN))))) (fun _ h => by rw [hmore, ← nvs_more, List.length_append]; exact h.sort (by repeat constructor)) (by show s.size - (i + 1) < s.size - i; omega) (by show i + 1 ≤ _; omega) | exact again (i + 1, u) (sC rfl (sC rfl (sC rfl (sC rfl (sC rfl sN))))) (fun _ h => by rw [hmore]; exact h.sort (by repeat constructor)) (by show s.size - (i + 1) < s.size - i; omega) (by show i + 1 ≤ _; omega)
   have f3 := h3;try simp only [bl] at f3
   have h40 : L[i]? ≠ some 40 := fun e => by
     rw [hib] at e
     have e2 := Option.some.inj e
     simp only [Int.toNat_natCast] at f3
     exact f3 (by rw [e2]; rfl)
   have hmore := ops_no h40
   refine cK (blk_n (tC (cR ?_)));refine oV ?_
   first | (refine o_add trivial rfl rfl rfl ?_ ?_; (omega)) | refine oV ?_
   refine oV ?_;refine oN ?_
   first | exact again (i + 1, v64) (sC rfl (sC rfl (sC rfl (sC rfl (sC rfl sN))))) (fun _ h => by rw [hmore, ← nvs_more, List.length_append]; exact h.sort (by repeat constructor)) (by show s.size - (i + 1) < s.size - i; omega) (by show i + 1 ≤ _; omega) | exact again (i + 1, u) (sC rfl (sC rfl (sC rfl (sC rfl (sC rfl sN))))) (fun _ h => by rw [hmore]; exact h.sort (by repeat constructor)) (by show s.size - (i + 1) < s.size - i; omega) (by show i + 1 ≤ _; omega)
  have f2 := h2;try simp only [bl] at f2
  refine c_exit (then_x (then_x (blk_eq rfl (tC (cS (sR ?_))))));refine oV ?_;refine o_lenRow trivial rfl Tryz.underlying52 rfl (by repeat constructor) ?_;refine oV ?_;refine nT ?_;refine cC rfl (fun h4 => ?_) (fun h4 => ?_)
  ·
   have f4 := h4;try simp only [bl] at f4
   refine sR ?_;iterate 2 refine oV ?_
   refine nF ?_;refine ret1 rfl rfl ?_;exact leaf (Ext.refl _ _) (List.nil_sublist _) rfl
  have f4 := h4;try simp only [bl] at f4
  have hpos : 0 < (opsZ L i).length := by omega
  have hkm : 0 ≤ k0 % ((opsZ L i).length : Int) ∧ k0 % ((opsZ L i).length : Int) < (opsZ L i).length := ⟨Int.emod_nonneg _ (by omega), Int.emod_lt_of_pos _ (by omega)⟩
  obtain ⟨f, hf⟩ : ∃ f, (opsZ L i)[(k0 % ((opsZ L i).length : Int)).toNat]? = some f := ⟨_, List.getElem?_eq_getElem (by omega)⟩
  have hf40 := ops_mem (List.mem_of_getElem? hf)
  have hfl := (List.getElem?_eq_some_iff.1 hf40).1
  obtain ⟨t, hpr⟩ := pair_of hbal hf40
  obtain ⟨hcut, hdeep⟩ := pair_cut hf40 hpr
  have hft := hpr.lt
  have htl := hpr.in_
  refine kS ?_;iterate 2 refine oV ?_
  first | refine o_convIn trivial rfl Tryz.underlying5 Tryz.underlying3 rfl (by rw [IntWalk.i64_in _ (by omega)]) ?_ | refine o_conv trivial rfl Tryz.underlying5 Tryz.underlying3 rfl ?_
  refine oV ?_;refine o_lenRow trivial rfl Tryz.underlying52 rfl (by repeat constructor) ?_;refine o_rem trivial rfl rfl rfl (by omega) ?_;refine o_elemRow trivial rfl Tryz.underlying52 Tryz.sizeOf3 rfl (by repeat constructor) rfl (by omega) ?_;refine o_loadRow1 trivial rfl Tryz.isAgg3 (by repeat constructor) rfl ((by rw [Nat.mul_one]; unfold nvs; rw [List.getElem?_map, hf]; rfl)) ?_;refine oV ?_;refine nS ?_;iterate 2 refine oV ?_
  refine nS ?_;refine oV ?_;refine nU ?_;refine oV ?_;refine o_lenS trivial rfl Tryz.underlying9 rfl ?_
  first | (refine o_sub trivial rfl rfl rfl ?_ ?_; (omega)) | refine oV ?_
  refine oV ?_;refine oN (tC (cB ?_));refine c_loop (ι := Int × Int) [7, 9, 12, 13] (.cons rfl (.cons rfl (.cons rfl (.cons rfl .nil)))) (fun z => (z.1 + 1).toNat) (fun z E0 => (14, .int .i64 z.2) :: (15, .int .i64 z.1) :: E0) (fun z => St w [] I [.row u 3 1 (opsZ L i).length (nvs (opsZ L i)), .box b3 (.cells #[vi, vl, vo, va] 26 (0, 0))]) (fun z => (f : Int) ≤ z.1 ∧ z.1 ≤ (s.size : Int) - 1 ∧ z.2 = (cn 41 (L.drop (z.1 + 1).toNat) : Nat)) (((s.size : Int) - 1, 0)) (sC rfl (sC rfl (sC rfl (sC rfl (sC rfl (sC rfl sN)))))) (fun _ h => h) (⟨by show (f : Int) ≤ (s.size : Int) - 1; omega, by show (s.size : Int) - 1 ≤ _; omega, by show (0 : Int) = (cn 41 (L.drop ((s.size : Int) - 1 + 1).toNat) : Nat); rw [List.drop_of_length_le (by omega)]; rfl⟩) ?_;rintro ⟨j, d⟩ ⟨hj1, hj2, hd⟩
  try dsimp only
  simp only at hj1 hj2 hd; have hdl := cn_le 41 (L.drop (j + 1).toNat); rw [List.length_drop] at hdl
  refine cS (sR ?_);iterate 3 refine oV ?_
  refine nT ?_;refine cC rfl (fun h5 => ?_) (fun h5 => ?_)
  ·
   have f5 := h5;try simp only [bl] at f5
   obtain ⟨z, rfl⟩ : ∃ z : Nat, j = z := ⟨j.toNat, by omega⟩
   have hzb := hat (i := z) (by omega)
   have hdz : L.drop z = s.get! z :: L.drop (z + 1) := by
     rw [List.drop_eq_getElem_cons (by omega)]
     congr 1
     rw [List.getElem?_eq_getElem (by omega)] at hzb
     exact Option.some.inj hzb
   have hcz : cn 41 (L.drop z) = (if s.get! z = 41 then 1 else 0) + cn 41 (L.drop (z + 1)) := by rw [hdz, cn_cons]
   rw [show ((z : Int) + 1).toNat = z + 1 by omega] at hd hdl
   refine cK (tC (cS (cB (sR ?_))));iterate 2 refine oV ?_
   refine o_idxS trivial rfl Tryz.underlying9 rfl rfl (by omega) ?_;refine oV ?_;refine nT ?_;refine cC rfl (fun h6 => ?_) (fun h6 => ?_)
   ·
    have f6 := h6;try simp only [bl] at f6
    have h41 : s.get! z = 41 := byte41 (by simpa using f6)
    rw [if_pos h41] at hcz
    refine cR ?_;refine oV ?_
    first | (refine o_add trivial rfl rfl rfl ?_ ?_; (omega)) | refine oV ?_
    refine oV ?_;refine oN (blk_n (tC (cR ?_)));refine oV ?_
    first | (refine o_sub trivial rfl rfl rfl ?_ ?_; (omega)) | refine oV ?_
    refine oV ?_;refine oN ?_
    first | exact again ((z : Int) - 1, d + 1) (sC rfl (sC rfl (sC rfl (sC rfl (sC rfl (sC rfl sN)))))) (fun _ h => h) (by show ((z : Int) - 1 + 1).toNat < ((z : Int) + 1).toNat; omega) ⟨by show (f : Int) ≤ (z : Int) - 1; omega, by show (z : Int) - 1 ≤ _; omega, by show d + 1 = (cn 41 (L.drop ((z : Int) - 1 + 1).toNat) : Nat); rw [show ((z : Int) - 1 + 1).toNat = z by omega, hcz]; omega⟩ | exact again ((z : Int) - 1, d) (sC rfl (sC rfl (sC rfl (sC rfl (sC rfl (sC rfl sN)))))) (fun _ h => h) (by show ((z : Int) - 1 + 1).toNat < ((z : Int) + 1).toNat; omega) ⟨by show (f : Int) ≤ (z : Int) - 1; omega, by show (z : Int) - 1 ≤ _; omega, by show d = (cn 41 (L.drop ((z : Int) - 1 + 1).toNat) : Nat); rw [show ((z : Int) - 1 + 1).toNat = z by omega, hcz]; omega⟩
   have f6 := h6;try simp only [bl] at f6
   have h41 : s.get! z ≠ 41 := fun e => by
     simp only [Int.toNat_natCast] at f6
     exact f6 (by rw [e]; rfl)
   rw [if_neg h41] at hcz
   refine cK (blk_n (tC (cR ?_)));refine oV ?_
   first | (refine o_sub trivial rfl rfl rfl ?_ ?_; (omega)) | refine oV ?_
   refine oV ?_;refine oN ?_
   first | exact again ((z : Int) - 1, d + 1) (sC rfl (sC rfl (sC rfl (sC rfl (sC rfl (sC rfl sN)))))) (fun _ h => h) (by show ((z : Int) - 1 + 1).toNat < ((z : Int) + 1).toNat; omega) ⟨by show (f : Int) ≤ (z : Int) - 1; omega, by show (z : Int) - 1 ≤ _; omega, by show d + 1 = (cn 41 (L.drop ((z : Int) - 1 + 1).toNat) : Nat); rw [show ((z : Int) - 1 + 1).toNat = z by omega, hcz]; omega⟩ | exact again ((z : Int) - 1, d) (sC rfl (sC rfl (sC rfl (sC rfl (sC rfl (sC rfl sN)))))) (fun _ h => h) (by show ((z : Int) - 1 + 1).toNat < ((z : Int) + 1).toNat; omega) ⟨by show (f : Int) ≤ (z : Int) - 1; omega, by show (z : Int) - 1 ≤ _; omega, by show d = (cn 41 (L.drop ((z : Int) - 1 + 1).toNat) : Nat); rw [show ((z : Int) - 1 + 1).toNat = z by omega, hcz]; omega⟩
  have f5 := h5;try simp only [bl] at f5
  have hdp : 1 ≤ d := by
    rw [hd, show (j + 1).toNat = f + 1 by omega]; omega
  refine c_exit (then_x (then_x (blk_eq rfl (tC (sR ?_)))));refine oV ?_;refine nU ?_;iterate 2 refine oV ?_
  refine oN (tC (cB ?_));refine c_loop (ι := Nat × Int × Int) [7, 9, 12, 14] (.cons rfl (.cons rfl (.cons rfl (.cons rfl .nil)))) (fun z => s.size - z.1) (fun z E0 => (13, .int .i64 z.2.1) :: (16, .int .i64 z.2.2) :: (17, .int .i64 (z.1 : Nat)) :: E0) (fun z => St w [] I [.row u 3 1 (opsZ L i).length (nvs (opsZ L i)), .box b3 (.cells #[vi, vl, vo, va] 26 (0, 0))]) (fun z => f ≤ z.1 ∧ z.1 ≤ t + 1 ∧ z.2.1 = (if z.1 ≤ t then (f : Int) else (t : Int)) ∧ z.2.2 = gapZ L f z.1) ((f, (f : Int), 0)) (sC rfl (sC rfl (sC rfl (sC rfl (sC rfl (sC rfl (sC rfl sN))))))) (fun _ h => h) (⟨Nat.le_refl _, by show f ≤ t + 1; omega, by show (f : Int) = if f ≤ t then (f : Int) else (t : Int); rw [if_pos (by omega)], by show (0 : Int) = gapZ L f f; rw [gap_all]⟩) ?_;rintro ⟨y, to, op⟩ ⟨hy1, hy2, hto, hop⟩
  try dsimp only
  simp only at hy1 hy2 hto hop; have hgb : -4000 ≤ gapZ L f y ∧ gapZ L f y ≤ 4000 := by unfold gapZ; have q1 := cn_le 40 ((L.take y).drop f); have q2 := cn_le 41 ((L.take y).drop f); rw [List.length_drop, List.length_take] at q1 q2; omega
  refine cS (sR ?_);iterate 2 refine oV ?_
  refine o_lenS trivial rfl Tryz.underlying9 rfl ?_;refine oV ?_;refine' o_and trivial trivial rfl rfl rfl rfl rfl rfl rfl rfl (fun hb97 => ?_) ?_;rotate_left
  ·
   iterate 3 refine gV hb97 ?_
   refine oN ?_;exact joins rfl
  refine nT ?_;refine cC rfl (fun h7 => ?_) (fun h7 => ?_)
  ·
   have f7 := h7;try simp only [bl] at f7
   obtain ⟨k5, k6⟩ := f7
   have hyt : y ≤ t := by
     rcases Nat.lt_or_ge t y with h9 | h9
     · rw [if_neg (by omega)] at hto; omega
     · exact h9
   rw [if_pos hyt] at hto
   have hyb := hat (i := y) (by omega)
   have hgs := gap_step (l := L) hy1 hyb
   have hyz : y = t → s.get! y = 41 := fun e => by
     have h9 := hpr.shut
     rw [← e, hyb] at h9
     exact Option.some.inj h9
   refine cK (tC (cS (cB ?_)));refine c_cut (ι := Int) [7, 9, 12, 13, 14, 17] (.cons rfl (.cons rfl (.cons rfl (.cons rfl (.cons rfl (.cons rfl .nil)))))) (fun z E0 => (16, .int .i64 z) :: E0) (fun z => St w [] I [.row u 3 1 (opsZ L i).length (nvs (opsZ L i)), .box b3 (.cells #[vi, vl, vo, va] 26 (0, 0))]) (fun z => z = op + (if s.get! y = 40 then 1 else 0)) ?_ ?_
   ·
    refine sR ?_;iterate 2 refine oV ?_
    refine o_idxS trivial rfl Tryz.underlying9 rfl rfl (by omega) ?_;refine oV ?_;refine nT ?_;refine cC rfl (fun h8 => ?_) (fun h8 => ?_)
    ·
     have f8 := h8;try simp only [bl] at f8
     have h40 : s.get! y = 40 := byte40 (by simpa using f8)
     refine cR ?_;refine oV ?_
     first | (refine o_add trivial rfl rfl rfl ?_ ?_; (omega)) | refine oV ?_
     refine oV ?_;refine oN ?_
     first | exact meet (op + 1) (sC rfl (sC rfl (sC rfl (sC rfl (sC rfl (sC rfl (sC rfl sN))))))) (fun _ h => h) (by show op + 1 = _; rw [if_pos h40]) | exact meet op (sC rfl (sC rfl (sC rfl (sC rfl (sC rfl (sC rfl (sC rfl sN))))))) (fun _ h => h) (by show op = _; rw [if_neg h40]; omega)
    have f8 := h8;try simp only [bl] at f8
    have h40 : s.get! y ≠ 40 := fun e => by
      simp only [Int.toNat_natCast] at f8
      exact f8 (by rw [e]; rfl)
    refine cK ?_
    first | exact meet (op + 1) (sC rfl (sC rfl (sC rfl (sC rfl (sC rfl (sC rfl (sC rfl sN))))))) (fun _ h => h) (by show op + 1 = _; rw [if_pos h40]) | exact meet op (sC rfl (sC rfl (sC rfl (sC rfl (sC rfl (sC rfl (sC rfl sN))))))) (fun _ h => h) (by show op = _; rw [if_neg h40]; omega)
   rintro z hz
   try dsimp only
   refine sR ?_;iterate 2 refine oV ?_
   refine o_idxS trivial rfl Tryz.underlying9 rfl rfl (by omega) ?_;refine oV ?_;refine nT ?_;refine cC rfl (fun h9 => ?_) (fun h9 => ?_)
   ·
    have f9 := h9;try simp only [bl] at f9
    have h41 : s.get! y = 41 := byte41 (by simpa using f9)
    rw [if_pos h41] at hgs
    have hzb2 : -5000 ≤ z ∧ z ≤ 5000 := by rw [hz]; split <;> omega
    refine sR ?_;refine oV ?_
    first | (refine o_sub trivial rfl rfl rfl ?_ ?_; (omega)) | refine oV ?_
    refine oV ?_;refine nS ?_;iterate 2 refine oV ?_
    refine nT ?_;refine cC rfl (fun h10 => ?_) (fun h10 => ?_)
    ·
     have f10 := h10;try simp only [bl] at f10
     have hyt2 : y = t := by
       rcases Nat.lt_or_ge y t with h9' | h9'
       · have := hpr.inner (y + 1) (by omega) (by omega); omega
       · omega
     refine cR ?_;iterate 2 refine oV ?_
     refine oN (blk_n (tC (cR ?_)));refine oV ?_
     first | (refine o_add trivial rfl rfl rfl ?_ ?_; (omega)) | refine oV ?_
     refine oV ?_;refine oN ?_
     first | exact again (y + 1, (y : Int), z - 1) (sC rfl (sC rfl (sC rfl (sC rfl (sC rfl (sC rfl (sC rfl sN))))))) (fun _ h => h) (by show s.size - (y + 1) < s.size - y; omega) ⟨by show f ≤ y + 1; omega, by show y + 1 ≤ t + 1; omega, by show (y : Int) = if y + 1 ≤ t then (f : Int) else (t : Int); rw [if_neg (by omega), hyt2], by show z - 1 = gapZ L f (y + 1); omega⟩ | exact again (y + 1, to, z - 1) (sC rfl (sC rfl (sC rfl (sC rfl (sC rfl (sC rfl (sC rfl sN))))))) (fun _ h => h) (by show s.size - (y + 1) < s.size - y; omega) ⟨by show f ≤ y + 1; omega, by show y + 1 ≤ t + 1; omega, by show to = if y + 1 ≤ t then (f : Int) else (t : Int); rw [if_pos (by omega), hto], by show z - 1 = gapZ L f (y + 1); omega⟩ | exact again (y + 1, to, z) (sC rfl (sC rfl (sC rfl (sC rfl (sC rfl (sC rfl (sC rfl sN))))))) (fun _ h => h) (by show s.size - (y + 1) < s.size - y; omega) ⟨by show f ≤ y + 1; omega, by show y + 1 ≤ t + 1; omega, by show to = if y + 1 ≤ t then (f : Int) else (t : Int); rw [if_pos (by omega), hto], by show z = gapZ L f (y + 1); omega⟩
    have f10 := h10;try simp only [bl] at f10
    have hylt : y < t := by
      rcases Nat.lt_or_ge y t with h9' | h9'
      · exact h9'
      · have h8 := hpr.zero
        rw [show t = y by omega] at h8
        omega
    refine cK (blk_n (tC (cR ?_)));refine oV ?_
    first | (refine o_add trivial rfl rfl rfl ?_ ?_; (omega)) | refine oV ?_
    refine oV ?_;refine oN ?_
    first | exact again (y + 1, (y : Int), z - 1) (sC rfl (sC rfl (sC rfl (sC rfl (sC rfl (sC rfl (sC rfl sN))))))) (fun _ h => h) (by show s.size - (y + 1) < s.size - y; omega) ⟨by show f ≤ y + 1; omega, by show y + 1 ≤ t + 1; omega, by show (y : Int) = if y + 1 ≤ t then (f : Int) else (t : Int); rw [if_neg (by omega), hyt2], by show z - 1 = gapZ L f (y + 1); omega⟩ | exact again (y + 1, to, z - 1) (sC rfl (sC rfl (sC rfl (sC rfl (sC rfl (sC rfl (sC rfl sN))))))) (fun _ h => h) (by show s.size - (y + 1) < s.size - y; omega) ⟨by show f ≤ y + 1; omega, by show y + 1 ≤ t + 1; omega, by show to = if y + 1 ≤ t then (f : Int) else (t : Int); rw [if_pos (by omega), hto], by show z - 1 = gapZ L f (y + 1); omega⟩ | exact again (y + 1, to, z) (sC rfl (sC rfl (sC rfl (sC rfl (sC rfl (sC rfl (sC rfl sN))))))) (fun _ h => h) (by show s.size - (y + 1) < s.size - y; omega) ⟨by show f ≤ y + 1; omega, by show y + 1 ≤ t + 1; omega, by show to = if y + 1 ≤ t then (f : Int) else (t : Int); rw [if_pos (by omega), hto], by show z = gapZ L f (y + 1); omega⟩
   have f9 := h9;try simp only [bl] at f9
   have h41 : s.get! y ≠ 41 := fun e => by
     simp only [Int.toNat_natCast] at f9
     exact f9 (by rw [e]; rfl)
   rw [if_neg h41] at hgs
   have hylt : y < t := by
     rcases Nat.lt_or_ge y t with h9' | h9'
     · exact h9'
     · exact absurd (hyz (by omega)) h41
   refine cK (blk_n (tC (cR ?_)));refine oV ?_
   first | (refine o_add trivial rfl rfl rfl ?_ ?_; (omega)) | refine oV ?_
   refine oV ?_;refine oN ?_
   first | exact again (y + 1, (y : Int), z - 1) (sC rfl (sC rfl (sC rfl (sC rfl (sC rfl (sC rfl (sC rfl sN))))))) (fun _ h => h) (by show s.size - (y + 1) < s.size - y; omega) ⟨by show f ≤ y + 1; omega, by show y + 1 ≤ t + 1; omega, by show (y : Int) = if y + 1 ≤ t then (f : Int) else (t : Int); rw [if_neg (by omega), hyt2], by show z - 1 = gapZ L f (y + 1); omega⟩ | exact again (y + 1, to, z - 1) (sC rfl (sC rfl (sC rfl (sC rfl (sC rfl (sC rfl (sC rfl sN))))))) (fun _ h => h) (by show s.size - (y + 1) < s.size - y; omega) ⟨by show f ≤ y + 1; omega, by show y + 1 ≤ t + 1; omega, by show to = if y + 1 ≤ t then (f : Int) else (t : Int); rw [if_pos (by omega), hto], by show z - 1 = gapZ L f (y + 1); omega⟩ | exact again (y + 1, to, z) (sC rfl (sC rfl (sC rfl (sC rfl (sC rfl (sC rfl (sC rfl sN))))))) (fun _ h => h) (by show s.size - (y + 1) < s.size - y; omega) ⟨by show f ≤ y + 1; omega, by show y + 1 ≤ t + 1; omega, by show to = if y + 1 ≤ t then (f : Int) else (t : Int); rw [if_pos (by omega), hto], by show z = gapZ L f (y + 1); omega⟩
  have f7 := h7;try simp only [bl] at f7
  have hyt : y = t + 1 := by
    rcases Nat.lt_or_ge t y with h9 | h9
    · omega
    · exfalso
      rw [if_pos h9] at hto
      rw [hto] at h7
      simp at h7
      omega
  subst hyt
  rw [if_neg (by omega)] at hto
  subst hto
  refine c_exit (then_x (then_x (blk_eq rfl (tC (cS (sR ?_))))));iterate 3 refine oV ?_
  refine' o_or trivial trivial rfl rfl rfl rfl rfl rfl rfl rfl (fun hb122 => ?_) ?_;rotate_left
  ·
   iterate 2 refine gV hb122 ?_
   refine oN ?_;exact joins rfl
  refine nT ?_;refine cC rfl (fun h11 => ?_) (fun h11 => ?_)
  ·
   have f11 := h11;try simp only [bl] at f11
   exfalso; omega
  have f11 := h11;try simp only [bl] at f11
  refine cK (tC (cS ?_))
  obtain ⟨TT, hTT⟩ : ∃ TT, TT = s.extract 0 f ++ s.extract (f + 1) t ++ s.extract (t + 1) s.size := ⟨_, rfl⟩
  have hTl : TT.data.toList = L.take f ++ (L.take t).drop (f + 1) ++ L.drop (t + 1) := by
    rw [hTT]
    simp only [ByteArray.data_append, Array.toList_append, ext_list, ← hL]
    rw [List.drop_zero, List.take_of_length_le (l := L) (i := s.size) (by omega)]
  have hTc : cn 40 TT.data.toList < inn x := by rw [hTl, ← hbal.up]; omega
  have hTs : TT.size ≤ s.size := by
    rw [hTT, ByteArray.size_append, ByteArray.size_append, ByteArray.size_extract, ByteArray.size_extract, ByteArray.size_extract]
    omega
  have hX : ∀ a b c d : Nat, a = f → b = f + 1 → c = t + 1 → d = t → s.extract 0 a ++ s.extract b d ++ s.extract c s.size = TT := fun a b c d h1 h2 h3 h4 => by rw [h1, h2, h3, h4, hTT]
  refine c_quiet (by kernel_rfl) (by kernel_rfl) (fun _ h => h.drawn) ?_;iterate 2 refine oV ?_
  refine o_sliceS2 trivial rfl Tryz.underlying9 rfl rfl (by omega) ?_;iterate 2 refine oV ?_
  first | (refine o_add trivial rfl rfl rfl ?_ ?_; (omega)) | refine oV ?_
  refine oV ?_;refine o_sliceS3 trivial rfl Tryz.underlying9 rfl rfl rfl (by omega) ?_;refine o_cat trivial rfl rfl rfl (by rw [ByteArray.size_extract, ByteArray.size_extract]; omega) ?_;iterate 2 refine oV ?_
  first | (refine o_add trivial rfl rfl rfl ?_ ?_; (omega)) | refine oV ?_
  refine o_sliceS1 trivial rfl Tryz.underlying9 rfl rfl (by omega) ?_;refine o_cat trivial rfl rfl rfl (by rw [ByteArray.size_append, ByteArray.size_extract, ByteArray.size_extract, ByteArray.size_extract]; omega) ?_;refine oV ?_;refine oN (tC (cS ?_))
  rw [hX _ _ _ _ (by omega) (by omega) (by omega) (by omega)]
  have hA := parse_any (hdQ ++ s ++ tlQ) hT hM hE (by rw [ByteArray.size_append, ByteArray.size_append]; show 14 + _ + 8 ≤ _; omega)
  have hAq : parseZ (hdQ ++ s ++ tlQ) = ⟨pQ x, 0, 0, 0⟩ := by rw [hs]; exact parseQ hx.ok hxh (by omega)
  rw [hAq] at hA
  refine cR ?_;refine oV ?_;refine o_cat trivial rfl rfl rfl (by show 14 + _ ≤ _; omega) ?_;refine o_cat trivial rfl rfl rfl (by rw [ByteArray.size_append]; show 14 + _ + 8 ≤ _; omega) ?_;refine oI Tryz.call27 rfl hA ?_;rintro _ I1 hx1 ⟨ui, ul, uo, ua, ms, rfl, hq, hg⟩;refine oV ?_
  have hq : ProgV I1 ui ul uo ua (pQ x) ms := hq
  have hti := hq.si
  have htl2 := hq.sl
  have hto2 := hq.so
  have hta := hq.sa
  have hB := parse_any (hdQ ++ TT ++ tlQ) (hT.le hx1.le) (hM.le hx1.le) (hE.le hx1.le) (by rw [ByteArray.size_append, ByteArray.size_append]; show 14 + _ + 8 ≤ _; omega)
  have hno : (parseZ (hdQ ++ TT ++ tlQ)).err = 0 → pQ x ≠ (parseZ (hdQ ++ TT ++ tlQ)).p := fun he => by
    refine needs_law hx.ok (by rw [ByteArray.size_append, ByteArray.size_append]; show 14 + _ + 8 ≤ _; omega) ?_ he
    simp only [ByteArray.data_append, Array.toList_append, cn_app]
    have z1 : cn 40 hdQ.data.toList = 0 := by decide
    have z2 : cn 40 tlQ.data.toList = 0 := by decide
    omega
  generalize hR : parseZ (hdQ ++ TT ++ tlQ) = R at hB hno
  iterate 3 refine oV ?_
  refine o_alloc trivial rfl Tryz.zeroValue26 rfl (fun b19 => ?_);refine o_alloc trivial rfl Tryz.zeroValue48 rfl (fun b20 => ?_);refine oS Tryz.sizeOf26 ?_;refine oS Tryz.sizeOf48 ?_;refine oV ?_;refine nS ?_;refine oV ?_;refine o_cat trivial rfl rfl rfl (by show 14 + _ ≤ _; omega) ?_;refine o_cat trivial rfl rfl rfl (by rw [ByteArray.size_append]; show 14 + _ + 8 ≤ _; omega) ?_;refine oI Tryz.call27 rfl hB ?_;rintro _ I2 hx2 ⟨wi, wl, wo, wa, ks, rfl, hr, hgr⟩;refine oV ?_
  have hri := hr.si
  have hrl := hr.sl
  have hro := hr.so
  have hra := hr.sa
  have hq2 := hq.le hx2.le
  have hsame := gSame_any ui ul uo ua wi wl wo wa (pQ x) R.p ms ks hq2 hr
  iterate 3 refine oV ?_
  refine o_alloc trivial rfl Tryz.zeroValue26 rfl (fun b22 => ?_);refine o_alloc trivial rfl Tryz.zeroValue48 rfl (fun b23 => ?_);refine oS Tryz.sizeOf26 ?_;refine oS Tryz.sizeOf48 ?_;refine oV ?_;refine nS ?_;iterate 2 refine oA Tryz.isAgg26 Tryz.sizeOf26 ?_
  refine oQ Tryz.call28 rfl hsame ?_;refine oV ?_;refine nS ?_;refine oV ?_;refine' o_and trivial trivial rfl rfl rfl rfl rfl rfl rfl rfl (fun hb160 => ?_) ?_;rotate_left
  ·
   iterate 2 refine gV hb160 ?_
   refine oN ?_;exact joins rfl
  refine' o_and trivial trivial rfl rfl rfl rfl rfl rfl rfl rfl (fun hb164 => ?_) ?_;rotate_left
  ·
   have fb164 := hb164
   try simp only [bl] at fb164
   iterate 2 refine gV hb164 ?_
   refine' o_or (wS rfl rfl hb164) (wS rfl rfl hb164) rfl rfl rfl rfl rfl rfl rfl rfl (fun hb167 => ?_) ?_;rotate_left
   ·
    have fb167 := hb167
    try simp only [bl] at fb167
    iterate 2 refine gV hb167 ?_
    refine oN ?_;exact joins rfl
   refine oN ?_;exact joins rfl
  refine oV ?_;refine nE ?_;refine ret1 rfl rfl ?_;refine leaf (hx1.trans hx2 (Nat.le_refl _)) (List.nil_sublist _) (congrArg Value.bool ?_)
  by_cases he : R.err = 0
  · rw [he, eqB_ne (hno he)]; rfl
  · simp [he]
end Go.Proofs.YtfcmhcaggdakbaaGreatDoor
namespace Go.Tw
open Go Go.RowKit Go.ChangeShapes Go.WideShapes Go.ChangeAt Go.Deep
def Tr {H : Type} (enc : TypeId × Value → H) (P : Program) (W : World) (t : TypeId) (cs : List Value) : Prop := ∃ n x, DataW.trod enc P W 0 (fun _ => true) true n t cs = some x
section
variable {base : Nat} {H : Type} {enc : TypeId × Value → H} {P : Program} {W : World} {t e : TypeId} {v : Value} {cs : List Value} {d : DataW H} {ps : List MemPlace}
theorem tr_of_struct {fs : Array Field} (ht : P.underlying t = some (.struct fs)) (hval : Value.okWide P W .any base t v) (h : DataW.Trod enc P W 0 (fun _ => true) true t v d ps) : ∃ cs : List Value, v = .agg cs.toArray ∧ Tr enc P W t cs := by
  obtain ⟨cs, rfl, _⟩ := okWide_struct ht hval
  obtain ⟨n, h⟩ := h
  exact ⟨cs.toList, by simp, n, _, h⟩
theorem tr_int {k : IntKind} (ht : P.underlying t = some (.int k)) (h : Tr enc P W t [v]) : ∃ z, v = .int k z ∧ (Lit.int k z).wf = true := by
  obtain ⟨n, x, h⟩ := h
  obtain ⟨z, h1, _, h2⟩ := DataW.trod_int ht h
  exact ⟨z, (List.cons.inj h1).1, h2⟩
theorem tr_bool (ht : P.underlying t = some .bool) (h : Tr enc P W t [v]) : ∃ b, v = .bool b := by
  obtain ⟨n, x, h⟩ := h
  obtain ⟨z, h1, _⟩ := DataW.trod_bool ht h
  exact ⟨z, (List.cons.inj h1).1⟩
theorem tr_string (ht : P.underlying t = some .string) (h : Tr enc P W t [v]) : ∃ s : ByteArray, v = .string s ∧ s.size ≤ maxLen := by
  obtain ⟨n, x, h⟩ := h
  obtain ⟨z, h1, _, h2⟩ := DataW.trod_string ht h
  exact ⟨z, (List.cons.inj h1).1, h2⟩
theorem tr_struct {fs : Array Field} (ht : P.underlying t = some (.struct fs)) (h : Tr enc P W t cs) : cs.length = P.cellsOf t ∧ ∀ (i : Nat) (f : Field), fs[i]? = some f → Tr enc P W f.type ((cs.drop f.offset).take (P.cellsOf f.type)) := by
  obtain ⟨n, x, h⟩ := h
  obtain ⟨xs, m, _, _, hl, hx, hf⟩ := DataW.trod_struct ht h
  refine ⟨hl, fun i f hi => ?_⟩
  have h1 := hf i f hi
  have hlt : i < xs.length := by rw [hx]; exact (Array.getElem?_eq_some_iff.1 hi).1
  rw [List.getElem?_eq_getElem hlt] at h1
  exact ⟨m, _, h1⟩
theorem tr_rows {sz : Nat} (ht : P.underlying t = some (.slice e)) (hsz : P.cellsOf e = sz) (hpos : 0 < sz) (h : Tr enc P W t [v]) : ∃ xss : List (List Value), Slc (World.hp W) sz v xss ∧ ∀ c ∈ xss, Tr enc P W e c := by
  obtain ⟨n, x, h⟩ := h
  rcases open_slice ht h with ⟨h1, _⟩ | ⟨a, len, cap, m, n', D, Pl, h1, hb, hl, hc, hm, _, hx⟩
  · obtain rfl := (List.cons.inj h1).1
    exact ⟨[], Slc.nil _ _, fun c hc => by cases hc⟩
  · obtain rfl := (List.cons.inj h1).1
    subst hsz
    simp only [if_true] at hm
    subst hm
    obtain ⟨G, hG⟩ := choose_lt (α := List Value) (p := fun i cs' => W.cells? 0 (a.add (i * P.cellsOf e)) (P.cellsOf e) = some cs' ∧ DataW.trod enc P W 0 (fun _ => true) true n' e cs' = some (D i, Pl i)) hx
    have hcell : ∀ i, i < m → (G i).length = P.cellsOf e ∧ ∀ k, k < P.cellsOf e → W.cell? (a.add (i * P.cellsOf e + k)) = (G i)[k]? := fun i hi => by
      obtain ⟨h2, h3, h4⟩ := World.cells?_some (hG i hi).1
      refine ⟨h3, fun k hk => ?_⟩
      rw [← h4 k hk, add_add]
    refine ⟨(List.range len).map G, ?_, fun c hc => ?_⟩
    · have hlen : ((List.range len).map G).length = len := by simp
      have hlens : ∀ c ∈ (List.range len).map G, c.length = P.cellsOf e := fun c hc => by
        obtain ⟨i, hi, rfl⟩ := List.mem_map.1 hc
        exact (hcell i (by have := List.mem_range.1 hi; omega)).1
      by_cases h0 : m = 0
      · have hl0 : len = 0 := by omega
        subst h0
        subst hl0
        exact Slc.nilA _ _ _
      · have hsp : a.spot = none := by
          have h2 := (hcell 0 (by omega)).2 0 hpos
          have h3 : 0 < (G 0).length := by rw [(hcell 0 (by omega)).1]; exact hpos
          rw [List.getElem?_eq_getElem h3] at h2
          unfold World.cell? at h2
          split at h2
          · split at h2
            · cases h2
            · rename_i hs
              have hz : a.add (0 * P.cellsOf e + 0) = a := by rw [Nat.zero_mul]; unfold Addr.add; simp
              rw [hz] at hs
              cases hsp : a.spot with
              | none => rfl
              | some s => rw [hsp] at hs; simp at hs
          · cases h2
        obtain ⟨b, off, s⟩ := a
        change s = none at hsp
        subst hsp
        refine ⟨.inr ⟨b, off, m, by rw [hlen], by rw [hlen]; exact hl⟩, fun j c hj k u hk => ?_, hlens, by rw [hlen]; omega⟩
        rw [List.getElem?_map] at hj
        have hjl : j < len := by
          by_cases hjl : j < len
          · exact hjl
          · rw [List.getElem?_eq_none (by simp; omega)] at hj; cases hj
        rw [List.getElem?_range hjl] at hj
        cases hj
        have hkl := (List.getElem?_eq_some_iff.1 hk).1
        rw [(hcell j (by omega)).1] at hkl
        have h2 := (hcell j (by omega)).2 k hkl
        rw [hk, add_none] at h2
        rw [hp_cell]
        simp only [slcB, slcO]
        rw [Nat.add_assoc]
        exact h2
    · obtain ⟨i, hi, rfl⟩ := List.mem_map.1 hc
      exact ⟨n', _, (hG i (by have := List.mem_range.1 hi; omega)).2⟩
theorem tr_ints {k : IntKind} {xss : List (List Value)} {sz : Nat} (ht : P.underlying t = some (.int k)) (hs : Slc (World.hp W) 1 v xss) (h : ∀ c ∈ xss, Tr enc P W t c) : ∃ zs : List Int, xss = zs.map (fun z => [.int k z]) ∧ ∀ z ∈ zs, (Lit.int k z).wf = true := by
  have key : ∀ (l : List (List Value)), (∀ c ∈ l, c.length = 1 ∧ Tr enc P W t c) → ∃ zs : List Int, l = zs.map (fun z => [.int k z]) ∧ ∀ z ∈ zs, (Lit.int k z).wf = true := by
    intro l
    induction l with
    | nil => exact fun _ => ⟨[], rfl, fun z hz => by cases hz⟩
    | cons c l ih =>
      intro hl
      obtain ⟨zs, h1, h2⟩ := ih fun c hc => hl c (List.mem_cons_of_mem _ hc)
      obtain ⟨h3, h4⟩ := hl c List.mem_cons_self
      match c, h3 with
      | [x], _ =>
        obtain ⟨z, rfl, h5⟩ := tr_int ht h4
        exact ⟨z :: zs, by rw [h1]; rfl, fun y hy => by
          rcases List.mem_cons.1 hy with rfl | hy
          · exact h5
          · exact h2 y hy⟩
  exact key xss fun c hc => ⟨hs.lens c hc, h c hc⟩
theorem rows_map {α : Type} {f : α → List Value} {p : α → Prop} {xss : List (List Value)} (h : ∀ c ∈ xss, ∃ a, c = f a ∧ p a) : ∃ zs : List α, xss = zs.map f ∧ ∀ a ∈ zs, p a := by
  induction xss with
  | nil => exact ⟨[], rfl, fun a h => by cases h⟩
  | cons c l ih =>
    obtain ⟨zs, h1, h2⟩ := ih fun c hc => h c (List.mem_cons_of_mem _ hc)
    obtain ⟨a, ha, hp⟩ := h c List.mem_cons_self
    exact ⟨a :: zs, by rw [ha, h1]; rfl, fun b hb => by
      rcases List.mem_cons.1 hb with rfl | hb
      · exact hp
      · exact h2 b hb⟩
end
end Go.Tw
namespace Go.Proofs.YtfcmhcaggdakbaaGreatDoor
open Go Go.Tw Go.ChangeShapes Go.WideShapes Go.ChangeAt
set_option maxRecDepth 100000
section
variable {base : Nat} {H : Type} {enc : TypeId × Value → H} {W : World} {v : Value} {cs : List Value} {d : DataW H} {ps : List MemPlace}
theorem ce_int : Tryz.prog.cellsOf 3 = 1 := by kernel_rfl
theorem ce_bool : Tryz.prog.cellsOf 4 = 1 := by kernel_rfl
theorem ce_str : Tryz.prog.cellsOf 9 = 1 := by kernel_rfl
theorem ce_u32 : Tryz.prog.cellsOf 134 = 1 := by kernel_rfl
theorem ce_u32s : Tryz.prog.cellsOf 33 = 1 := by kernel_rfl
theorem ce_rat : Tryz.prog.cellsOf 35 = 3 := by kernel_rfl
theorem ce_node : Tryz.prog.cellsOf 37 = 8 := by kernel_rfl
theorem ce_let : Tryz.prog.cellsOf 39 = 2 := by kernel_rfl
theorem ce_prog : Tryz.prog.cellsOf 26 = 4 := by kernel_rfl
theorem ce_strs : Tryz.prog.cellsOf 22 = 1 := by kernel_rfl
theorem ce_lets : Tryz.prog.cellsOf 23 = 1 := by kernel_rfl
theorem ce_nodes : Tryz.prog.cellsOf 24 = 1 := by kernel_rfl
theorem of2 {l : List Value} (h : l.length = 2) : ∃ a b, l = [a, b] := by
  match l, h with
  | [a, b], _ => exact ⟨a, b, rfl⟩
theorem of3 {l : List Value} (h : l.length = 3) : ∃ a b c, l = [a, b, c] := by
  match l, h with
  | [a, b, c], _ => exact ⟨a, b, c, rfl⟩
theorem of4 {l : List Value} (h : l.length = 4) : ∃ a b c d, l = [a, b, c, d] := by
  match l, h with
  | [a, b, c, d], _ => exact ⟨a, b, c, d, rfl⟩
theorem of8 {l : List Value} (h : l.length = 8) : ∃ a b c d e f g i, l = [a, b, c, d, e, f, g, i] := by
  match l, h with
  | [a, b, c, d, e, f, g, i], _ => exact ⟨a, b, c, d, e, f, g, i, rfl⟩
theorem tr_wds (h : Tr enc Tryz.prog W 33 [v]) : ∃ O, Ws (World.hp W) v O := by
  obtain ⟨xss, h1, h2⟩ := tr_rows Tryz.underlying33 ce_u32 (by decide) h
  obtain ⟨zs, rfl, h3⟩ := tr_ints (sz := 1) Tryz.underlying134 h1 h2
  refine ⟨zs.map Int.toNat, ⟨?_, fun x hx => ?_⟩⟩
  · have e : wcs (zs.map Int.toNat) = zs.map (fun z => [Value.int .u32 z]) := by
      unfold wcs
      rw [List.map_map]
      refine List.map_congr_left fun z hz => ?_
      have := bounds_u32 (h3 z hz)
      show [Value.int .u32 ((z.toNat : Nat) : Int)] = _
      rw [Int.toNat_of_nonneg this.1]
    rw [e]; exact h1
  · obtain ⟨z, hz, rfl⟩ := List.mem_map.1 hx
    have := bounds_u32 (h3 z hz)
    omega
theorem tr_num (h : Tr enc Tryz.prog W 35 cs) : ∃ s n d b c, cs = [.bool s, b, c] ∧ Ws (World.hp W) b n ∧ Ws (World.hp W) c d := by
  obtain ⟨h1, h2⟩ := tr_struct Tryz.underlying35 h
  obtain ⟨a, b, c, rfl⟩ := of3 (by rw [h1]; exact ce_rat)
  have k0 := h2 0 _ rfl
  have k1 := h2 1 _ rfl
  have k2 := h2 2 _ rfl
  change Tr enc Tryz.prog W 4 (List.take (Tryz.prog.cellsOf 4) [a, b, c]) at k0
  change Tr enc Tryz.prog W 33 (List.take (Tryz.prog.cellsOf 33) [b, c]) at k1
  change Tr enc Tryz.prog W 33 (List.take (Tryz.prog.cellsOf 33) [c]) at k2
  rw [ce_bool] at k0
  rw [ce_u32s] at k1 k2
  obtain ⟨s, rfl⟩ := tr_bool Tryz.underlying4 k0
  obtain ⟨n, hn⟩ := tr_wds k1
  obtain ⟨dd, hd⟩ := tr_wds k2
  exact ⟨s, n, dd, b, c, rfl, hn, hd⟩
theorem tr_node (h : Tr enc Tryz.prog W 37 cs) : ∃ o : NodeV, cs = o.cells ∧ o.ok (World.hp W) := by
  obtain ⟨h1, h2⟩ := tr_struct Tryz.underlying37 h
  obtain ⟨a, b, c, d, e, f, g, i, rfl⟩ := of8 (by rw [h1]; exact ce_node)
  have k0 := h2 0 _ rfl
  have k1 := h2 1 _ rfl
  have k2 := h2 2 _ rfl
  have k3 := h2 3 _ rfl
  have k4 := h2 4 _ rfl
  have k5 := h2 5 _ rfl
  change Tr enc Tryz.prog W 3 (List.take (Tryz.prog.cellsOf 3) [a, b, c, d, e, f, g, i]) at k0
  change Tr enc Tryz.prog W 3 (List.take (Tryz.prog.cellsOf 3) [b, c, d, e, f, g, i]) at k1
  change Tr enc Tryz.prog W 3 (List.take (Tryz.prog.cellsOf 3) [c, d, e, f, g, i]) at k2
  change Tr enc Tryz.prog W 3 (List.take (Tryz.prog.cellsOf 3) [d, e, f, g, i]) at k3
  change Tr enc Tryz.prog W 9 (List.take (Tryz.prog.cellsOf 9) [e, f, g, i]) at k4
  change Tr enc Tryz.prog W 35 (List.take (Tryz.prog.cellsOf 35) [f, g, i]) at k5
  rw [ce_int] at k0 k1 k2 k3
  rw [ce_str] at k4
  rw [ce_rat] at k5
  obtain ⟨z0, rfl, b0⟩ := tr_int Tryz.underlying3 k0
  obtain ⟨z1, rfl, b1⟩ := tr_int Tryz.underlying3 k1
  obtain ⟨z2, rfl, b2⟩ := tr_int Tryz.underlying3 k2
  obtain ⟨z3, rfl, b3⟩ := tr_int Tryz.underlying3 k3
  obtain ⟨s, rfl, _⟩ := tr_string Tryz.underlying9 k4
  obtain ⟨ng, n, dd, vb, vc, hx, hn, hd⟩ := tr_num k5
  obtain ⟨rfl, h5⟩ := List.cons.inj hx
  obtain ⟨rfl, h6⟩ := List.cons.inj h5
  obtain ⟨rfl, _⟩ := List.cons.inj h6
  exact ⟨⟨⟨z0, z1, z2, z3, s, ng, n, dd⟩, g, i⟩, rfl, hn, hd⟩
theorem tr_let (h : Tr enc Tryz.prog W 39 cs) : ∃ o : LetC, cs = o.cells ∧ True := by
  obtain ⟨h1, h2⟩ := tr_struct Tryz.underlying39 h
  obtain ⟨a, b, rfl⟩ := of2 (by rw [h1]; exact ce_let)
  have k0 := h2 0 _ rfl
  have k1 := h2 1 _ rfl
  change Tr enc Tryz.prog W 9 (List.take (Tryz.prog.cellsOf 9) [a, b]) at k0
  change Tr enc Tryz.prog W 3 (List.take (Tryz.prog.cellsOf 3) [b]) at k1
  rw [ce_str] at k0
  rw [ce_int] at k1
  obtain ⟨s, rfl, _⟩ := tr_string Tryz.underlying9 k0
  obtain ⟨z, rfl, _⟩ := tr_int Tryz.underlying3 k1
  exact ⟨⟨s, z⟩, rfl, trivial⟩
theorem tr_strs (h : Tr enc Tryz.prog W 22 [v]) : ∃ l : List ByteArray, Slc (World.hp W) 1 v (scs l) := by
  obtain ⟨xss, s1, s2⟩ := tr_rows (sz := 1) Tryz.underlying22 ce_str (by decide) h
  obtain ⟨zs, rfl, _⟩ := rows_map (f := fun s : ByteArray => [Value.string s]) (p := fun _ => True) fun c hc => by
    have hl := s1.lens c hc
    match c, hl with
    | [x], _ =>
      obtain ⟨s, rfl, _⟩ := tr_string Tryz.underlying9 (s2 _ hc)
      exact ⟨s, rfl, trivial⟩
  exact ⟨zs, s1⟩
theorem open_Pg (hval : Value.okWide Tryz.prog W .any base 26 v) (h : DataW.Trod enc Tryz.prog W 0 (fun _ => true) true 26 v d ps) : ∃ (p : ProgC) (vi vl vo va : Value) (ns : List NodeV), v = .agg #[vi, vl, vo, va] ∧ ProgV (World.hp W) vi vl vo va p ns := by
  obtain ⟨cs, rfl, hh⟩ := tr_of_struct Tryz.underlying26 hval h
  obtain ⟨h1, h2⟩ := tr_struct Tryz.underlying26 hh
  obtain ⟨a, b, c, e, rfl⟩ := of4 (by rw [h1]; exact ce_prog)
  have k0 := h2 0 _ rfl
  have k1 := h2 1 _ rfl
  have k2 := h2 2 _ rfl
  have k3 := h2 3 _ rfl
  change Tr enc Tryz.prog W 22 (List.take (Tryz.prog.cellsOf 22) [a, b, c, e]) at k0
  change Tr enc Tryz.prog W 23 (List.take (Tryz.prog.cellsOf 23) [b, c, e]) at k1
  change Tr enc Tryz.prog W 22 (List.take (Tryz.prog.cellsOf 22) [c, e]) at k2
  change Tr enc Tryz.prog W 24 (List.take (Tryz.prog.cellsOf 24) [e]) at k3
  rw [ce_strs] at k0 k2
  rw [ce_lets] at k1
  rw [ce_nodes] at k3
  obtain ⟨li, gi⟩ := tr_strs k0
  obtain ⟨lo, go⟩ := tr_strs k2
  obtain ⟨xss, s1, s2⟩ := tr_rows (sz := 2) Tryz.underlying23 ce_let (by decide) k1
  obtain ⟨ls, rfl, _⟩ := rows_map (f := LetC.cells) (p := fun _ => True) fun c hc => tr_let (s2 c hc)
  obtain ⟨yss, u1, u2⟩ := tr_rows (sz := 8) Tryz.underlying24 ce_node (by decide) k3
  obtain ⟨ns, rfl, u3⟩ := rows_map (f := NodeV.cells) (p := fun o => o.ok (World.hp W)) fun c hc => tr_node (u2 c hc)
  exact ⟨⟨li, ls, lo, ns.map NodeV.c⟩, a, b, c, e, ns, rfl, gi, s1, go, u1, u3, rfl⟩
end
end Go.Proofs.YtfcmhcaggdakbaaGreatDoor
