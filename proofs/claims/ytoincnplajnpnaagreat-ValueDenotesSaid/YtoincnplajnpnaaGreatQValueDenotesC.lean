/-
  ValueDenotes, part 3: the texts Value, Value2, Ref1, Ref2, Ref3, Ref4, Ref5, Ref7, Ref8, Ref8b, Ref14, Ref14b, Ref15, Bound as one.
-/
import Derived.Test.YtoincnplajnpnaaGreatQValueDenotesB
open Go.Proofs.Tryz
set_option linter.unusedVariables false
set_option linter.unusedSimpArgs false
set_option linter.unnecessarySimpa false
set_option maxHeartbeats 1000000
namespace Go.Tw
open Go
structure RV where
 q : Rat
 vn : Value
 vd : Value
def RV.cells (r : RV) : List Value := [.bool (decide (r.q.num < 0)),r.vn,r.vd]
def RV.ok (I : Hp) (r : RV) : Prop := Ws I r.vn (natW r.q.num.natAbs) ∧ Ws I r.vd (natW r.q.den)
theorem RV.ok.le {I I' : Hp} {r : RV} (h : r.ok I) (hl : I.Le I') : r.ok I' := ⟨h.1.le hl,h.2.le hl⟩
def rcs (rs : List RV) : List (List Value) := rs.map RV.cells
theorem qao (rs : List RV) : (rcs rs).length = rs.length := by simp [rcs]
theorem qef (rs : List RV) : ∀ c ∈ rcs rs,c.length = 3 := by
 intro c hc
 obtain ⟨r,_,rfl⟩ := List.mem_map.1 hc
 rfl
theorem qjq {size : Nat} : ∀ {xss : List (List Value)}, (∀ c ∈ xss, c.length = size) → ∀ j c, xss[j]? = some c → ∀ k y, c[k]? = some y → xss.flatten[j * size + k]? = some y
 | [],_,j,c,hj,k,y,hk => by simp at hj
 | x :: r, hl, 0, c, hj, k, y, hk => by
   simp only [List.getElem?_cons_zero,Option.some.injEq] at hj
   subst hj
   rw [List.flatten_cons,Nat.zero_mul,Nat.zero_add,List.getElem?_append_left (List.getElem?_eq_some_iff.1 hk).1]
   exact hk
 | x :: r, hl, j + 1, c, hj, k, y, hk => by
   have hx := hl x List.mem_cons_self
   simp only [List.getElem?_cons_succ] at hj
   have ih := qjq (fun c hc => hl c (List.mem_cons_of_mem _ hc)) j c hj k y hk
   rw [List.flatten_cons,List.getElem?_append_right (by rw [hx,Nat.add_mul,Nat.one_mul]; omega),hx]
   rw [show (j + 1) * size + k - size = j * size + k by rw [Nat.add_mul,Nat.one_mul]; omega]
   exact ih
theorem zw {rs : List RV} {i : Nat} {r : RV} (h : rs[i]? = some r) : ∀ k y, ([.bool (decide (r.q.num < 0)), r.vn, r.vd] : List Value)[k]? = some y → (rcs rs).flatten[i * 3 + k]? = some y :=
 qjq (qef rs) i _ (by unfold rcs; rw [List.getElem?_map,h]; rfl)
def zth (l : List Rat) (i : Int) : Rat := l.getD i.toNat 0
def opR (o : OpC) (l : List Rat) : Option Rat :=
 if o.code = 2 then some (zth l o.a + zth l o.b)
 else if o.code = 3 then some (zth l o.a - zth l o.b)
 else if o.code = 4 then some (zth l o.a * zth l o.b)
 else if o.code = 5 then (if zth l o.b = 0 then none else some (zth l o.a / zth l o.b))
 else if o.code = 6 then some (-zth l o.a)
 else if o.code = 7 then (if o.e < 0 ∧ zth l o.a = 0 then none else some (zth l o.a ^ o.e))
 else some (lowQ o.neg (val o.n) (val o.d))
structure OpOK (o : OpC) (l : List Rat) : Prop where
 place : 2 ≤ o.code → o.code ≤ 7 → 0 ≤ o.a ∧ o.a < l.length ∧ 0 ≤ o.b ∧ o.b < l.length
 few : ∀ q ∈ l,Few 50000 q
 pow : o.code = 7 → ∃ c,Few c (zth l o.a) ∧ c ≤ 4096 ∧ c * o.e.natAbs ≤ 4096 ∧ -64 ≤ o.e ∧ o.e ≤ 64
 lits : o.n.length ≤ 100000 ∧ o.d.length ≤ 100000
end Go.Tw
namespace Go.Proofs.YtoincnplajnpnaaGreat
open Go Go.Tw
theorem qob (s : Bool) (x y : Value) (X Y : List Nat) {I : Hp} (hx : Ws I x X) (hy : Ws I y Y) : Fun prog 76 [.agg #[.bool s,x,y],.int .i64 0] I [] (fun v _ _ => v = .agg #[.bool s,x,y]) := by
 intro w hw
 refine qv _ func76 rfl ntmps76 rfl ?_ hw;refine sR ?_;refine qo trivial rfl rfl rfl (fun b2 => ?_);refine qh trivial rfl zeroValue48 rfl (fun b4 => ?_);refine nU ?_;iterate 2 refine oV ?_
 refine nT ?_;refine qie rfl (by rfl) ?_;refine kS ?_;refine oA isAgg48 sizeOf48 ?_;refine oS sizeOf48 ?_;refine nE ?_;refine retR rfl (.agg isAgg48 sizeOf48 rfl (by repeat constructor) rfl .nil) ?_;exact qg rfl
def qeg : Value := .iface 35 (.int .i64 3)
theorem qoc (v : Value) (s : Bool) (x y : Value) {I : Hp} (hv : v = .agg #[.bool s,x,y]) : FunX prog 76 [v,.int .i64 3] I [] qeg := by
 subst hv
 intro w hw
 refine qm4 _ func76 rfl ntmps76 rfl ?_ hw;refine sR ?_;refine qo trivial rfl rfl rfl (fun b2 => ?_);refine qh trivial rfl zeroValue48 rfl (fun b4 => ?_);refine nU ?_;iterate 2 refine oV ?_
 refine nT ?_;refine ql0 rfl (by rfl) ?_;refine cR ?_;refine oV ?_;refine quw trivial rfl underlying35 rfl ?_;refine quv trivial rfl ?_;refine yd ?_;refine retX ?_;exact qjb (Hp.Le.refl _)
theorem zx (rs : List RV) (i : Int) (h : 0 ≤ i ∧ i < (rs.length : Nat)) : ∃ r,rs[i.toNat]? = some r ∧ r ∈ rs ∧ zth (rs.map RV.q) i = r.q := by
 refine ⟨rs[i.toNat]'(by omega),List.getElem?_eq_getElem _,List.getElem_mem _,?_⟩
 unfold zth
 rw [List.getD_eq_getElem?_getD,List.getElem?_map,List.getElem?_eq_getElem (by omega : i.toNat < rs.length)]; rfl
theorem qod {f : FuncId} {args : List Value} {I : Hp} {e : Prop} [Decidable e] {q : Rat} (h : Fun prog f args I [] (fun v I' _ => okR e q I' v)) (he : ¬ e) : Fun prog f args I [] (fun v I' _ => ∃ u1 u2, v = .tuple #[.agg #[.bool (decide (q.num < 0)), u1, u2], .int .i64 0] ∧ Ws I' u1 (natW q.num.natAbs) ∧ Ws I' u2 (natW q.den)) := fun w hw => (h w hw).mono fun v w' ⟨I', B', h1, h2, h3⟩ => by
 obtain ⟨u,rfl,u1,u2,rfl,h4,h5⟩ := h3.ratV he
 exact ⟨I',B',h1,h2,u1,u2,rfl,h4,h5⟩
theorem qoe {f : FuncId} {args : List Value} {I : Hp} {e : Prop} [Decidable e] {q : Rat} (h : Fun prog f args I [] (fun v I' _ => okR e q I' v)) (he : e) : Fun prog f args I [] (fun v I' _ => ∃ s u1 u2, v = .tuple #[.agg #[.bool s, u1, u2], .int .i64 3]) := fun w hw => (h w hw).mono fun v w' ⟨I', B', h1, h2, h3⟩ => by
 obtain ⟨s,x,y,X,Y,rfl,h4,h5,h6⟩ := h3
 rw [if_pos he]
 exact ⟨I',B',h1,h2,s,x,y,rfl⟩
theorem qws {o : OpC} {l : List Rat} (h : opR o l = none) : (o.code = 5 ∧ zth l o.b = 0) ∨ (o.code = 7 ∧ o.e < 0 ∧ zth l o.a = 0) := by
 unfold opR at h
 split at h
 · cases h
 split at h
 · cases h
 split at h
 · cases h
 split at h
 · split at h
   · exact .inl ⟨by assumption,by assumption⟩
   · cases h
 split at h
 · cases h
 split at h
 · split at h
   · rename_i h1 h2; exact .inr ⟨h1,h2⟩
   · cases h
 · cases h
theorem qcn (code a b e : Int) (neg : Bool) (va vb u : Value) (A B : List Nat) (rs : List RV) (q : Rat) {I : Hp} (ha : Ws I va A) (hb : Ws I vb B) (hr : ∀ r ∈ rs, r.ok I) (ok : OpOK ⟨code, a, b, e, neg, A, B⟩ (rs.map RV.q)) (hq : opR ⟨code, a, b, e, neg, A, B⟩ (rs.map RV.q) = some q) :
   Fun prog 49 [.agg #[.int .i64 code,.int .i64 a,.int .i64 b,.int .i64 e,.bool neg,va,vb],u] I [.row u 48 3 rs.length (rcs rs).flatten] (fun v I' B' => B' = [.row u 48 3 rs.length (rcs rs).flatten] ∧ RatV I' v q) := by
 obtain ⟨place,few,pow,lits⟩ := ok
 simp only [List.length_map] at place few pow lits
 unfold opR at hq
 dsimp only at hq
 intro w hw
 refine qv _ func49 rfl ntmps49 rfl ?_ hw;refine sR ?_;refine qo trivial rfl rfl rfl (fun b2 => ?_);refine qh trivial rfl zeroValue48 rfl (fun b4 => ?_);refine nU ?_;refine oF 0 underlying53 sizeOf3 ?_;refine oL isAgg3 ?_;refine oN (tC (cB (sR ?_)));iterate 2 refine oV ?_
 refine nT ?_;refine cC rfl (fun h1 => ?_) (fun h1 => ?_)
 ·
  have f1 := h1;try simp only [bl] at f1
  obtain ⟨r1,hr1,hm1,hz1⟩ := zx rs a (by have := place (by omega) (by omega); omega)
  obtain ⟨r2,hr2,hm2,hz2⟩ := zx rs b (by have := place (by omega) (by omega); omega)
  obtain ⟨hn1,hd1⟩ := hr r1 hm1
  obtain ⟨hn2,hd2⟩ := hr r2 hm2
  have hf1 := few r1.q (List.mem_map_of_mem hm1)
  have hf2 := few r2.q (List.mem_map_of_mem hm2)
  have hp := place (by omega) (by omega)
  have e9 : q = r1.q + r2.q := by rw [if_pos f1,hz1,hz2] at hq; exact (Option.some.inj hq).symm
  subst e9
  refine cS ?_;refine yb (m := 12) [.box b2 _,.row u 48 3 rs.length (rcs rs).flatten] (by repeat constructor) (by kernel_rfl) rfl ?_;refine qT (i := 0) (qB 12 1) (Hp.Le.refl _) rfl rfl (oV qF) ?_;refine qT (i := 1) (qB 12 3) (Hp.Le.refl _) rfl rfl (oF 1 underlying53 sizeOf3 qF) ?_;refine qT (i := 2) (qB 12 7) (Hp.Le.refl _) rfl rfl (oL isAgg3 qF) ?_;refine qT (i := 3) (qB 12 15) (Hp.Le.refl _) rfl rfl (yp trivial rfl underlying39 sizeOf48 rfl (by repeat constructor) rfl (by omega) qF) ?_;refine qT (i := 4) (qB 12 31) (Hp.Le.refl _) rfl rfl (zp trivial rfl isAgg48 sizeOf48 (by repeat constructor) rfl rfl (zw hr1) qF) ?_;refine qT (i := 5) (qB 12 63) (Hp.Le.refl _) rfl rfl (oV qF) ?_;refine qT (i := 6) (qB 12 127) (Hp.Le.refl _) rfl rfl (oF 2 underlying53 sizeOf3 qF) ?_;refine qT (i := 7) (qB 12 255) (Hp.Le.refl _) rfl rfl (oL isAgg3 qF) ?_;refine qT (i := 8) (qB 12 511) (Hp.Le.refl _) rfl rfl (yp trivial rfl underlying39 sizeOf48 rfl (by repeat constructor) rfl (by omega) qF) ?_;refine qT (i := 9) (qB 12 1023) (Hp.Le.refl _) rfl rfl (zp trivial rfl isAgg48 sizeOf48 (by repeat constructor) rfl rfl (zw hr2) qF) ?_;refine qO (i := 10) (qB 12 2047) rfl ?_;refine oI call73 rfl (qnw r1.q r2.q _ _ _ _ hn1 hd1 hn2 hd2 hf1 hf2) ?_;rintro _ I1 hx1 ⟨u1,u2,rfl,hs1,hs2⟩;refine qM (hx1.le) ?_;refine qO (i := 11) (qB 12 4095) rfl ?_;refine oS sizeOf48 ?_;refine qM (hx1.le) ?_
  refine qn (by kernel_rfl) ?_;refine tC (cT (qd (tR ?_)));refine retR rfl (.agg isAgg48 sizeOf48 rfl (by repeat constructor) rfl .nil) ?_;exact fun w' hw' => ⟨_,[.row u 48 3 rs.length (rcs rs).flatten],hw'.sort (by repeat constructor),hx1,rfl,u1,u2,rfl,hs1,hs2⟩
 have f1 := h1;try simp only [bl] at f1
 refine sR ?_;iterate 2 refine oV ?_
 refine nT ?_;refine cC rfl (fun h2 => ?_) (fun h2 => ?_)
 ·
  have f2 := h2;try simp only [bl] at f2
  obtain ⟨r1,hr1,hm1,hz1⟩ := zx rs a (by have := place (by omega) (by omega); omega)
  obtain ⟨r2,hr2,hm2,hz2⟩ := zx rs b (by have := place (by omega) (by omega); omega)
  obtain ⟨hn1,hd1⟩ := hr r1 hm1
  obtain ⟨hn2,hd2⟩ := hr r2 hm2
  have hf1 := few r1.q (List.mem_map_of_mem hm1)
  have hf2 := few r2.q (List.mem_map_of_mem hm2)
  have hp := place (by omega) (by omega)
  have e9 : q = r1.q - r2.q := by rw [if_neg f1,if_pos f2,hz1,hz2] at hq; exact (Option.some.inj hq).symm
  subst e9
  refine cS ?_;refine yb (m := 12) [.box b2 _,.row u 48 3 rs.length (rcs rs).flatten] (by repeat constructor) (by kernel_rfl) rfl ?_;refine qT (i := 0) (qB 12 1) (Hp.Le.refl _) rfl rfl (oV qF) ?_;refine qT (i := 1) (qB 12 3) (Hp.Le.refl _) rfl rfl (oF 1 underlying53 sizeOf3 qF) ?_;refine qT (i := 2) (qB 12 7) (Hp.Le.refl _) rfl rfl (oL isAgg3 qF) ?_;refine qT (i := 3) (qB 12 15) (Hp.Le.refl _) rfl rfl (yp trivial rfl underlying39 sizeOf48 rfl (by repeat constructor) rfl (by omega) qF) ?_;refine qT (i := 4) (qB 12 31) (Hp.Le.refl _) rfl rfl (zp trivial rfl isAgg48 sizeOf48 (by repeat constructor) rfl rfl (zw hr1) qF) ?_;refine qT (i := 5) (qB 12 63) (Hp.Le.refl _) rfl rfl (oV qF) ?_;refine qT (i := 6) (qB 12 127) (Hp.Le.refl _) rfl rfl (oF 2 underlying53 sizeOf3 qF) ?_;refine qT (i := 7) (qB 12 255) (Hp.Le.refl _) rfl rfl (oL isAgg3 qF) ?_;refine qT (i := 8) (qB 12 511) (Hp.Le.refl _) rfl rfl (yp trivial rfl underlying39 sizeOf48 rfl (by repeat constructor) rfl (by omega) qF) ?_;refine qT (i := 9) (qB 12 1023) (Hp.Le.refl _) rfl rfl (zp trivial rfl isAgg48 sizeOf48 (by repeat constructor) rfl rfl (zw hr2) qF) ?_;refine qO (i := 10) (qB 12 2047) rfl ?_;refine oI call74 rfl (qwe r1.q r2.q _ _ _ _ hn1 hd1 hn2 hd2 hf1 hf2) ?_;rintro _ I1 hx1 ⟨u1,u2,rfl,hs1,hs2⟩;refine qM (hx1.le) ?_;refine qO (i := 11) (qB 12 4095) rfl ?_;refine oS sizeOf48 ?_;refine qM (hx1.le) ?_
  refine qn (by kernel_rfl) ?_;refine tC (cT (qd (tR ?_)));refine retR rfl (.agg isAgg48 sizeOf48 rfl (by repeat constructor) rfl .nil) ?_;exact fun w' hw' => ⟨_,[.row u 48 3 rs.length (rcs rs).flatten],hw'.sort (by repeat constructor),hx1,rfl,u1,u2,rfl,hs1,hs2⟩
 have f2 := h2;try simp only [bl] at f2
 refine sR ?_;iterate 2 refine oV ?_
 refine nT ?_;refine cC rfl (fun h3 => ?_) (fun h3 => ?_)
 ·
  have f3 := h3;try simp only [bl] at f3
  obtain ⟨r1,hr1,hm1,hz1⟩ := zx rs a (by have := place (by omega) (by omega); omega)
  obtain ⟨r2,hr2,hm2,hz2⟩ := zx rs b (by have := place (by omega) (by omega); omega)
  obtain ⟨hn1,hd1⟩ := hr r1 hm1
  obtain ⟨hn2,hd2⟩ := hr r2 hm2
  have hf1 := few r1.q (List.mem_map_of_mem hm1)
  have hf2 := few r2.q (List.mem_map_of_mem hm2)
  have hp := place (by omega) (by omega)
  have e9 : q = r1.q * r2.q := by rw [if_neg f1,if_neg f2,if_pos f3,hz1,hz2] at hq; exact (Option.some.inj hq).symm
  subst e9
  refine cS ?_;refine yb (m := 12) [.box b2 _,.row u 48 3 rs.length (rcs rs).flatten] (by repeat constructor) (by kernel_rfl) rfl ?_;refine qT (i := 0) (qB 12 1) (Hp.Le.refl _) rfl rfl (oV qF) ?_;refine qT (i := 1) (qB 12 3) (Hp.Le.refl _) rfl rfl (oF 1 underlying53 sizeOf3 qF) ?_;refine qT (i := 2) (qB 12 7) (Hp.Le.refl _) rfl rfl (oL isAgg3 qF) ?_;refine qT (i := 3) (qB 12 15) (Hp.Le.refl _) rfl rfl (yp trivial rfl underlying39 sizeOf48 rfl (by repeat constructor) rfl (by omega) qF) ?_;refine qT (i := 4) (qB 12 31) (Hp.Le.refl _) rfl rfl (zp trivial rfl isAgg48 sizeOf48 (by repeat constructor) rfl rfl (zw hr1) qF) ?_;refine qT (i := 5) (qB 12 63) (Hp.Le.refl _) rfl rfl (oV qF) ?_;refine qT (i := 6) (qB 12 127) (Hp.Le.refl _) rfl rfl (oF 2 underlying53 sizeOf3 qF) ?_;refine qT (i := 7) (qB 12 255) (Hp.Le.refl _) rfl rfl (oL isAgg3 qF) ?_;refine qT (i := 8) (qB 12 511) (Hp.Le.refl _) rfl rfl (yp trivial rfl underlying39 sizeOf48 rfl (by repeat constructor) rfl (by omega) qF) ?_;refine qT (i := 9) (qB 12 1023) (Hp.Le.refl _) rfl rfl (zp trivial rfl isAgg48 sizeOf48 (by repeat constructor) rfl rfl (zw hr2) qF) ?_;refine qO (i := 10) (qB 12 2047) rfl ?_;refine oI call75 rfl (qwf r1.q r2.q _ _ _ _ hn1 hd1 hn2 hd2 hf1 hf2) ?_;rintro _ I1 hx1 ⟨u1,u2,rfl,hs1,hs2⟩;refine qM (hx1.le) ?_;refine qO (i := 11) (qB 12 4095) rfl ?_;refine oS sizeOf48 ?_;refine qM (hx1.le) ?_
  refine qn (by kernel_rfl) ?_;refine tC (cT (qd (tR ?_)));refine retR rfl (.agg isAgg48 sizeOf48 rfl (by repeat constructor) rfl .nil) ?_;exact fun w' hw' => ⟨_,[.row u 48 3 rs.length (rcs rs).flatten],hw'.sort (by repeat constructor),hx1,rfl,u1,u2,rfl,hs1,hs2⟩
 have f3 := h3;try simp only [bl] at f3
 refine sR ?_;iterate 2 refine oV ?_
 refine nT ?_;refine cC rfl (fun h4 => ?_) (fun h4 => ?_)
 ·
  have f4 := h4;try simp only [bl] at f4
  obtain ⟨r1,hr1,hm1,hz1⟩ := zx rs a (by have := place (by omega) (by omega); omega)
  obtain ⟨r2,hr2,hm2,hz2⟩ := zx rs b (by have := place (by omega) (by omega); omega)
  obtain ⟨hn1,hd1⟩ := hr r1 hm1
  obtain ⟨hn2,hd2⟩ := hr r2 hm2
  have hf1 := few r1.q (List.mem_map_of_mem hm1)
  have hf2 := few r2.q (List.mem_map_of_mem hm2)
  have hp := place (by omega) (by omega)
  rw [if_neg f1,if_neg f2,if_neg f3,if_pos f4,hz1,hz2] at hq
  have hne : ¬ r2.q = 0 := fun h => by rw [if_pos h] at hq; cases hq
  have e9 : q = r1.q / r2.q := by rw [if_neg hne] at hq; exact (Option.some.inj hq).symm
  subst e9
  refine cS ?_;refine yb (m := 15) [.box b2 _,.row u 48 3 rs.length (rcs rs).flatten] (by repeat constructor) (by kernel_rfl) rfl ?_;refine qT (i := 0) (qB 15 1) (Hp.Le.refl _) rfl rfl (oV qF) ?_;refine qT (i := 1) (qB 15 3) (Hp.Le.refl _) rfl rfl (oF 1 underlying53 sizeOf3 qF) ?_;refine qT (i := 2) (qB 15 7) (Hp.Le.refl _) rfl rfl (oL isAgg3 qF) ?_;refine qT (i := 3) (qB 15 15) (Hp.Le.refl _) rfl rfl (yp trivial rfl underlying39 sizeOf48 rfl (by repeat constructor) rfl (by omega) qF) ?_;refine qT (i := 4) (qB 15 31) (Hp.Le.refl _) rfl rfl (zp trivial rfl isAgg48 sizeOf48 (by repeat constructor) rfl rfl (zw hr1) qF) ?_;refine qT (i := 5) (qB 15 63) (Hp.Le.refl _) rfl rfl (oV qF) ?_;refine qT (i := 6) (qB 15 127) (Hp.Le.refl _) rfl rfl (oF 2 underlying53 sizeOf3 qF) ?_;refine qT (i := 7) (qB 15 255) (Hp.Le.refl _) rfl rfl (oL isAgg3 qF) ?_;refine qT (i := 8) (qB 15 511) (Hp.Le.refl _) rfl rfl (yp trivial rfl underlying39 sizeOf48 rfl (by repeat constructor) rfl (by omega) qF) ?_;refine qT (i := 9) (qB 15 1023) (Hp.Le.refl _) rfl rfl (zp trivial rfl isAgg48 sizeOf48 (by repeat constructor) rfl rfl (zw hr2) qF) ?_;refine qO (i := 10) (qB 15 2047) rfl ?_;refine oI call77 rfl (qod (qny r1.q r2.q _ _ _ _ hn1 hd1 hn2 hd2 hf1 hf2) hne) ?_;rintro _ I1 hx1 ⟨u1,u2,rfl,hs1,hs2⟩;refine qM (hx1.le) ?_;refine qT (i := 11) (qB 15 4095) (hx1.le) rfl rfl (oV qF) ?_
  refine qT (i := 12) (qB 15 8191) (hx1.le) rfl rfl (oV qF) ?_;refine qO (i := 13) (qB 15 16383) rfl ?_;refine oQ call76 rfl (qob _ _ _ _ _ hs1 hs2) ?_;refine qM (hx1.le) ?_;refine qO (i := 14) (qB 15 32767) rfl ?_;refine oS sizeOf48 ?_;refine qM (hx1.le) ?_;refine qn (by kernel_rfl) ?_;refine tC (cT (qd (tR ?_)));refine retR rfl (.agg isAgg48 sizeOf48 rfl (by repeat constructor) rfl .nil) ?_;exact fun w' hw' => ⟨_,[.row u 48 3 rs.length (rcs rs).flatten],hw'.sort (by repeat constructor),hx1,rfl,u1,u2,rfl,hs1,hs2⟩
 have f4 := h4;try simp only [bl] at f4
 refine sR ?_;iterate 2 refine oV ?_
 refine nT ?_;refine cC rfl (fun h5 => ?_) (fun h5 => ?_)
 ·
  have f5 := h5;try simp only [bl] at f5
  obtain ⟨r1,hr1,hm1,hz1⟩ := zx rs a (by have := place (by omega) (by omega); omega)
  obtain ⟨hn1,hd1⟩ := hr r1 hm1
  have hf1 := few r1.q (List.mem_map_of_mem hm1)
  have hp := place (by omega) (by omega)
  have e9 : q = -r1.q := by rw [if_neg f1,if_neg f2,if_neg f3,if_neg f4,if_pos f5,hz1] at hq; exact (Option.some.inj hq).symm
  subst e9
  refine sR ?_;refine oV ?_;refine oF 1 underlying53 sizeOf3 ?_;refine oL isAgg3 ?_;refine yp trivial rfl underlying39 sizeOf48 rfl (by repeat constructor) rfl (by omega) ?_;refine zp trivial rfl isAgg48 sizeOf48 (by repeat constructor) rfl rfl (zw hr1) ?_;refine oI call78 rfl (qnx r1.q _ _ hn1 hd1 (hf1.le (by decide))) ?_;rintro _ I1 hx1 ⟨u1,u2,rfl,hs1,hs2⟩;refine oS sizeOf48 ?_;refine oN (tC (cT (qd (tR ?_))));refine retR rfl (.agg isAgg48 sizeOf48 rfl (by repeat constructor) rfl .nil) ?_;exact fun w' hw' => ⟨_,[.row u 48 3 rs.length (rcs rs).flatten],hw'.sort (by repeat constructor),hx1,rfl,u1,u2,rfl,hs1,hs2⟩
 have f5 := h5;try simp only [bl] at f5
 refine sR ?_;iterate 2 refine oV ?_
 refine nT ?_;refine cC rfl (fun h6 => ?_) (fun h6 => ?_)
 ·
  have f6 := h6;try simp only [bl] at f6
  obtain ⟨r1,hr1,hm1,hz1⟩ := zx rs a (by have := place (by omega) (by omega); omega)
  obtain ⟨hn1,hd1⟩ := hr r1 hm1
  have hf1 := few r1.q (List.mem_map_of_mem hm1)
  have hp := place (by omega) (by omega)
  rw [if_neg f1,if_neg f2,if_neg f3,if_neg f4,if_neg f5,if_pos f6,hz1] at hq
  have hne : ¬ (e < 0 ∧ r1.q = 0) := fun h => by rw [if_pos h] at hq; cases hq
  have e9 : q = r1.q ^ e := by rw [if_neg hne] at hq; exact (Option.some.inj hq).symm
  subst e9
  obtain ⟨c,hc1,hc2,hc3,hc4⟩ := pow f6
  rw [hz1] at hc1
  refine cS ?_;refine yb (m := 12) [.box b2 _,.row u 48 3 rs.length (rcs rs).flatten] (by repeat constructor) (by kernel_rfl) rfl ?_;refine qT (i := 0) (qB 12 1) (Hp.Le.refl _) rfl rfl (oV qF) ?_;refine qT (i := 1) (qB 12 3) (Hp.Le.refl _) rfl rfl (oF 1 underlying53 sizeOf3 qF) ?_;refine qT (i := 2) (qB 12 7) (Hp.Le.refl _) rfl rfl (oL isAgg3 qF) ?_;refine qT (i := 3) (qB 12 15) (Hp.Le.refl _) rfl rfl (yp trivial rfl underlying39 sizeOf48 rfl (by repeat constructor) rfl (by omega) qF) ?_;refine qT (i := 4) (qB 12 31) (Hp.Le.refl _) rfl rfl (zp trivial rfl isAgg48 sizeOf48 (by repeat constructor) rfl rfl (zw hr1) qF) ?_;refine qT (i := 5) (qB 12 63) (Hp.Le.refl _) rfl rfl (oF 3 underlying53 sizeOf3 qF) ?_;refine qT (i := 6) (qB 12 127) (Hp.Le.refl _) rfl rfl (oL isAgg3 qF) ?_;refine qO (i := 7) (qB 12 255) rfl ?_;refine oI call79 rfl (qod (qn0 r1.q e _ _ hn1 hd1 hc1 hc2 hc4 hc3) hne) ?_;rintro _ I1 hx1 ⟨u1,u2,rfl,hs1,hs2⟩;refine qM (hx1.le) ?_;refine qT (i := 8) (qB 12 511) (hx1.le) rfl rfl (oV qF) ?_;refine qT (i := 9) (qB 12 1023) (hx1.le) rfl rfl (oV qF) ?_;refine qO (i := 10) (qB 12 2047) rfl ?_;refine oQ call76 rfl (qob _ _ _ _ _ hs1 hs2) ?_;refine qM (hx1.le) ?_;refine qO (i := 11) (qB 12 4095) rfl ?_;refine oS sizeOf48 ?_;refine qM (hx1.le) ?_;refine qn (by kernel_rfl) ?_;refine tC (cT (qd (tR ?_)));refine retR rfl (.agg isAgg48 sizeOf48 rfl (by repeat constructor) rfl .nil) ?_
  exact fun w' hw' => ⟨_,[.row u 48 3 rs.length (rcs rs).flatten],hw'.sort (by repeat constructor),hx1,rfl,u1,u2,rfl,hs1,hs2⟩
 have f6 := h6;try simp only [bl] at f6
 have e9 : q = lowQ neg (val A) (val B) := by rw [if_neg f1,if_neg f2,if_neg f3,if_neg f4,if_neg f5,if_neg f6] at hq; exact (Option.some.inj hq).symm
 subst e9
 refine cK (qe (tC (sR ?_)));refine oF 4 underlying53 sizeOf48 ?_;refine oA isAgg48 sizeOf48 ?_;refine oI call30 rfl (qea neg _ _ _ _ ha hb (by have := lits.1; omega) (by have := lits.2; omega)) ?_;rintro _ I1 hx1 ⟨u1,u2,rfl,hs1,hs2⟩;refine oS sizeOf48 ?_;refine nE ?_;refine retR rfl (.agg isAgg48 sizeOf48 rfl (by repeat constructor) rfl .nil) ?_;exact fun w' hw' => ⟨_,[.row u 48 3 rs.length (rcs rs).flatten],hw'.sort (by repeat constructor),hx1,rfl,u1,u2,rfl,hs1,hs2⟩
theorem qco (code a b e : Int) (neg : Bool) (va vb u : Value) (A B : List Nat) (rs : List RV) {I : Hp} (ha : Ws I va A) (hb : Ws I vb B) (hr : ∀ r ∈ rs, r.ok I) (ok : OpOK ⟨code, a, b, e, neg, A, B⟩ (rs.map RV.q)) (hq : opR ⟨code, a, b, e, neg, A, B⟩ (rs.map RV.q) = none) :
   FunX prog 49 [.agg #[.int .i64 code,.int .i64 a,.int .i64 b,.int .i64 e,.bool neg,va,vb],u] I [.row u 48 3 rs.length (rcs rs).flatten] qeg := by
 have hz := qws hq
 dsimp only at hz
 obtain ⟨place,few,pow,lits⟩ := ok
 simp only [List.length_map] at place few pow lits
 intro w hw
 refine qm4 _ func49 rfl ntmps49 rfl ?_ hw;refine sR ?_;refine qo trivial rfl rfl rfl (fun b2 => ?_);refine qh trivial rfl zeroValue48 rfl (fun b4 => ?_);refine nU ?_;refine oF 0 underlying53 sizeOf3 ?_;refine oL isAgg3 ?_;refine oN (tC (cB (sR ?_)));iterate 2 refine oV ?_
 refine nT ?_;refine cC rfl (fun h1 => ?_) (fun h1 => ?_)
 ·
  have f1 := h1;try simp only [bl] at f1
  exfalso; omega
 have f1 := h1;try simp only [bl] at f1
 refine sR ?_;iterate 2 refine oV ?_
 refine nT ?_;refine cC rfl (fun h2 => ?_) (fun h2 => ?_)
 ·
  have f2 := h2;try simp only [bl] at f2
  exfalso; omega
 have f2 := h2;try simp only [bl] at f2
 refine sR ?_;iterate 2 refine oV ?_
 refine nT ?_;refine cC rfl (fun h3 => ?_) (fun h3 => ?_)
 ·
  have f3 := h3;try simp only [bl] at f3
  exfalso; omega
 have f3 := h3;try simp only [bl] at f3
 refine sR ?_;iterate 2 refine oV ?_
 refine nT ?_;refine cC rfl (fun h4 => ?_) (fun h4 => ?_)
 ·
  have f4 := h4;try simp only [bl] at f4
  obtain ⟨r1,hr1,hm1,hz1⟩ := zx rs a (by have := place (by omega) (by omega); omega)
  obtain ⟨r2,hr2,hm2,hz2⟩ := zx rs b (by have := place (by omega) (by omega); omega)
  obtain ⟨hn1,hd1⟩ := hr r1 hm1
  obtain ⟨hn2,hd2⟩ := hr r2 hm2
  have hf1 := few r1.q (List.mem_map_of_mem hm1)
  have hf2 := few r2.q (List.mem_map_of_mem hm2)
  have hp := place (by omega) (by omega)
  have h0 : r2.q = 0 := by
    rw [← hz2]
    rcases hz with hz | hz
    · exact hz.2
    · omega
  refine cS ?_;refine yb (m := 15) [.box b2 _,.row u 48 3 rs.length (rcs rs).flatten] (by repeat constructor) (by kernel_rfl) rfl ?_;refine qT (i := 0) (qB 15 1) (Hp.Le.refl _) rfl rfl (oV qF) ?_;refine qT (i := 1) (qB 15 3) (Hp.Le.refl _) rfl rfl (oF 1 underlying53 sizeOf3 qF) ?_;refine qT (i := 2) (qB 15 7) (Hp.Le.refl _) rfl rfl (oL isAgg3 qF) ?_;refine qT (i := 3) (qB 15 15) (Hp.Le.refl _) rfl rfl (yp trivial rfl underlying39 sizeOf48 rfl (by repeat constructor) rfl (by omega) qF) ?_;refine qT (i := 4) (qB 15 31) (Hp.Le.refl _) rfl rfl (zp trivial rfl isAgg48 sizeOf48 (by repeat constructor) rfl rfl (zw hr1) qF) ?_;refine qT (i := 5) (qB 15 63) (Hp.Le.refl _) rfl rfl (oV qF) ?_;refine qT (i := 6) (qB 15 127) (Hp.Le.refl _) rfl rfl (oF 2 underlying53 sizeOf3 qF) ?_;refine qT (i := 7) (qB 15 255) (Hp.Le.refl _) rfl rfl (oL isAgg3 qF) ?_;refine qT (i := 8) (qB 15 511) (Hp.Le.refl _) rfl rfl (yp trivial rfl underlying39 sizeOf48 rfl (by repeat constructor) rfl (by omega) qF) ?_;refine qT (i := 9) (qB 15 1023) (Hp.Le.refl _) rfl rfl (zp trivial rfl isAgg48 sizeOf48 (by repeat constructor) rfl rfl (zw hr2) qF) ?_;refine qO (i := 10) (qB 15 2047) rfl ?_;refine oI call77 rfl (qoe (qny r1.q r2.q _ _ _ _ hn1 hd1 hn2 hd2 hf1 hf2) h0) ?_;rintro _ I1 hx1 ⟨s1,u1,u2,rfl⟩;refine qM (hx1.le) ?_;refine qT (i := 11) (qB 15 4095) (hx1.le) rfl rfl (oV qF) ?_;refine qT (i := 12) (qB 15 8191) (hx1.le) rfl rfl (oV qF) ?_
  refine qO (i := 13) (qB 15 16383) rfl ?_;refine qbi trivial call76 rfl (qoc _ s1 u1 u2 rfl) (by repeat constructor) ?_;refine yd (yd (j4 (yd ?_)));refine retX ?_;exact qjb hx1.le
 have f4 := h4;try simp only [bl] at f4
 refine sR ?_;iterate 2 refine oV ?_
 refine nT ?_;refine cC rfl (fun h5 => ?_) (fun h5 => ?_)
 ·
  have f5 := h5;try simp only [bl] at f5
  exfalso; omega
 have f5 := h5;try simp only [bl] at f5
 refine sR ?_;iterate 2 refine oV ?_
 refine nT ?_;refine cC rfl (fun h6 => ?_) (fun h6 => ?_)
 ·
  have f6 := h6;try simp only [bl] at f6
  obtain ⟨r1,hr1,hm1,hz1⟩ := zx rs a (by have := place (by omega) (by omega); omega)
  obtain ⟨hn1,hd1⟩ := hr r1 hm1
  have hf1 := few r1.q (List.mem_map_of_mem hm1)
  have hp := place (by omega) (by omega)
  have h0 : e < 0 ∧ r1.q = 0 := by
    rw [← hz1]
    rcases hz with hz | hz
    · omega
    · exact hz.2
  obtain ⟨c,hc1,hc2,hc3,hc4⟩ := pow f6
  rw [hz1] at hc1
  refine cS ?_;refine yb (m := 12) [.box b2 _,.row u 48 3 rs.length (rcs rs).flatten] (by repeat constructor) (by kernel_rfl) rfl ?_;refine qT (i := 0) (qB 12 1) (Hp.Le.refl _) rfl rfl (oV qF) ?_;refine qT (i := 1) (qB 12 3) (Hp.Le.refl _) rfl rfl (oF 1 underlying53 sizeOf3 qF) ?_;refine qT (i := 2) (qB 12 7) (Hp.Le.refl _) rfl rfl (oL isAgg3 qF) ?_;refine qT (i := 3) (qB 12 15) (Hp.Le.refl _) rfl rfl (yp trivial rfl underlying39 sizeOf48 rfl (by repeat constructor) rfl (by omega) qF) ?_;refine qT (i := 4) (qB 12 31) (Hp.Le.refl _) rfl rfl (zp trivial rfl isAgg48 sizeOf48 (by repeat constructor) rfl rfl (zw hr1) qF) ?_;refine qT (i := 5) (qB 12 63) (Hp.Le.refl _) rfl rfl (oF 3 underlying53 sizeOf3 qF) ?_;refine qT (i := 6) (qB 12 127) (Hp.Le.refl _) rfl rfl (oL isAgg3 qF) ?_;refine qO (i := 7) (qB 12 255) rfl ?_;refine oI call79 rfl (qoe (qn0 r1.q e _ _ hn1 hd1 hc1 hc2 hc4 hc3) h0) ?_;rintro _ I1 hx1 ⟨s1,u1,u2,rfl⟩;refine qM (hx1.le) ?_;refine qT (i := 8) (qB 12 511) (hx1.le) rfl rfl (oV qF) ?_;refine qT (i := 9) (qB 12 1023) (hx1.le) rfl rfl (oV qF) ?_;refine qO (i := 10) (qB 12 2047) rfl ?_;refine qbi trivial call76 rfl (qoc _ s1 u1 u2 rfl) (by repeat constructor) ?_;refine yd (yd (j4 (yd ?_)));refine retX ?_;exact qjb hx1.le
 have f6 := h6;try simp only [bl] at f6
 exfalso; rcases hz with hz | hz
 · exact f4 hz.1
 · exact f6 hz.1
end Go.Proofs.YtoincnplajnpnaaGreat
namespace Go.Tw
open Go
structure NV where
 neg : Bool
 n : List Nat
 d : List Nat
 vn : Value
 vd : Value
def NV.cells (x : NV) : List Value := [.bool x.neg,x.vn,x.vd]
def NV.ok (I : Hp) (x : NV) : Prop := Ws I x.vn x.n ∧ Ws I x.vd x.d
def NV.q (x : NV) : Rat := lowQ x.neg (val x.n) (val x.d)
theorem NV.ok.le {I I' : Hp} {r : NV} (h : r.ok I) (hl : I.Le I') : r.ok I' := ⟨h.1.le hl,h.2.le hl⟩
structure PtV (I : Hp) (v : Value) (xs : List NV) : Prop where
 s : Slc I 3 v (xs.map NV.cells)
 ok : ∀ x ∈ xs,x.ok I
theorem PtV.le {I I' : Hp} {v : Value} {xs : List NV} (h : PtV I v xs) (hl : I.Le I') : PtV I' v xs := ⟨h.s.le hl,fun o ho => (h.ok o ho).le hl⟩
theorem NV.at_ {I : Hp} {v : Value} {xs : List NV} (h : PtV I v xs) {i : Nat} {x : NV} (hx : xs[i]? = some x) : ∀ k y, ([.bool x.neg, x.vn, x.vd] : List Value)[k]? = some y → I.cell? ⟨slcB v, slcO v + i * 3 + k, none⟩ = some y :=
 h.s.cells i _ (by rw [List.getElem?_map,hx]; rfl)
structure RsV (I : Hp) (v : Value) (l : List Rat) : Prop where
 out : ∃ rs : List RV,Slc I 3 v (rcs rs) ∧ (∀ r ∈ rs,r.ok I) ∧ rs.map RV.q = l
theorem RsV.le {I I' : Hp} {v : Value} {l : List Rat} (h : RsV I v l) (hl : I.Le I') : RsV I' v l := let ⟨rs,h1,h2,h3⟩ := h.out; ⟨rs,h1.le hl,fun r hr => (h2 r hr).le hl,h3⟩
def opsR : List OpC → List Rat → Option (List Rat)
 | [],l => some l
 | o :: r, l => match opR o l with
   | some q => opsR r (l ++ [q])
   | none => none
def ze : List OpC → List Rat → Prop
 | [],_ => True
 | o :: r,l => OpOK o l ∧ ∀ q,opR o l = some q → ze r (l ++ [q])
end Go.Tw
namespace Go.Proofs.YtoincnplajnpnaaGreat
open Go Go.Tw
theorem qwt (b4 b5 : Nat) (w : World) : CallsD prog 48 #[.pointer (some ⟨b4,0,none⟩),.pointer (some ⟨b5,0,none⟩)] .returning w fun e u' w' => (∃ x,e = .returned x) ∧ u' = .returning ∧ w' = w := by
 refine callsD_of_wpS func48 rfl fun c₀ cs hu => ?_
 apply wpS_seq
 apply wpS_region
 simp [wpOpsS,go_sem,recoverD,hu,ntmps48,Exit.thenS]
 refine wpS_cond (t := false) (by simp [Act.eval,Array.replicate]) ?_
 simp only [Bool.false_eq_true,if_false]
 refine wpS_of_wp (wp_skip ?_)
 cases c₀
 simp_all [bodyPostS,results,results48]
theorem qcp (b4 b5 : Nat) (u z : Value) {w0 : World} {X : List Nat} {I : Hp} (w : World) (hw : St w0 X I [.box b4 (.cells #[u] 39 (0, 0)), .box b5 (.cells #[z] 35 (0, 0))] w) :
   CallsD prog 48 #[.pointer (some ⟨b4,0,none⟩),.pointer (some ⟨b5,0,none⟩)] (.panicking (pe qeg)) w fun e u' w' => (∃ x,e = .returned x) ∧ u' = .panicking [{ v := qeg,recovered := true }] ∧ St w0 X I [.box b4 (.cells #[.slice none 0 0] 39 (0,0)),.box b5 (.cells #[.int .i64 3] 35 (0,0))] w' := by
 refine callsD_of_wpS func48 rfl fun c₀ cs hu => ?_
 apply wpS_seq
 apply wpS_region
 simp [wpOpsS,go_sem,recoverD,hu,ntmps48,Exit.thenS,pe,qeg]
 refine wpS_cond (t := true) (by simp [Act.eval,Array.replicate]) ?_
 simp only [if_true]
 refine wpS_of_wp ?_;refine TC.out (n := 4) (D := []) (E := [(0,.pointer (some ⟨b4,0,none⟩)),(1,.pointer (some ⟨b5,0,none⟩))]) (S := St w0 X I [.box b4 (.cells #[u] 39 (0,0)),.box b5 (.cells #[z] 35 (0,0))]) ?_ _ w ⟨by simp,rfl,?_⟩ hw
 · refine cR ?_
   refine qip trivial rfl rfl rfl sizeOf39 rfl rfl (.here) (by repeat constructor) ?_;refine qip trivial rfl rfl rfl sizeOf35 rfl rfl (.there .here) (by repeat constructor) ?_;refine oN ?_;refine ⟨fun a w' ha hw' => ⟨ha.defs,.panicking [{ v := qeg,recovered := true }],rfl,.tuple #[],?_,⟨_,rfl⟩,rfl,hw'⟩⟩
   simp [results,results48]
 · intro i v hi
   match i,hi with
   | 0,hi => cases hi; rfl
   | 1,hi => cases hi; rfl
   | i + 2,hi => cases hi
def valR (r : Option (List Rat)) (v : Value) (I : Hp) : Prop := ∃ u,v = .tuple #[u,.int .i64 (if r.isSome then 0 else 3)] ∧ (∀ l,r = some l → RsV I u l) ∧ (r = none → u = .slice none 0 0)
theorem qcq {I : Hp} : valR none (.tuple #[.slice none 0 0,.int .i64 3]) I := ⟨_,rfl,fun l h => (by cases h),fun _ => rfl⟩
theorem qwu {I : Hp} {l : List Rat} {u : Value} (h : RsV I u l) : valR (some l) (.tuple #[u,.int .i64 0]) I := ⟨u,rfl,fun l' h' => (by cases h'; exact h),fun h' => by cases h'⟩
theorem jz {I : Hp} {b : Bool} {u1 u2 : Value} {X Y : List Nat} (h1 : Ws I u1 X) (h2 : Ws I u2 Y) : jo ([.bool b,u1,u2] ++ []) = true := by
 have e1 := h1.cells1.2
 have e2 := h2.cells1.2
 show (true && (u1.oneCell' && (u2.oneCell' && true))) = true
 rw [e1,e2]; rfl
theorem j8 (rs : List RV) (r : RV) : (rcs rs).flatten ++ [.bool (decide (r.q.num < 0)),r.vn,r.vd] = (rcs (rs ++ [r])).flatten := by
 unfold rcs; rw [List.map_append,List.flatten_append]; rfl
theorem qwv {ops : List OpC} {i : Nat} {o : OpC} (h : ops[i]? = some o) (l : List Rat) : opsR (ops.drop i) l = match opR o l with | some q => opsR (ops.drop (i + 1)) (l ++ [q]) | none => none := by
 rw [List.drop_eq_getElem_cons (List.getElem?_eq_some_iff.1 h).1,(List.getElem?_eq_some_iff.1 h).2]; rfl
theorem qww {ops : List OpC} {i : Nat} {o : OpC} (h : ops[i]? = some o) {l : List Rat} (hk : ze (ops.drop i) l) : OpOK o l ∧ ∀ q,opR o l = some q → ze (ops.drop (i + 1)) (l ++ [q]) := by
 rw [List.drop_eq_getElem_cons (List.getElem?_eq_some_iff.1 h).1,(List.getElem?_eq_some_iff.1 h).2] at hk; exact hk
theorem qwx (t : yr) (vo vu vx : Value) (os : List OpV) (xs : List NV) {I : Hp} (ht : ji I vo vu t os) (hpt : PtV I vx xs) (hxs : ∀ x ∈ xs, x.n.length ≤ 400000 ∧ x.d.length ≤ 400000) (hm : xs.length + t.ops.length ≤ 100000) (hok : ze t.ops (xs.map NV.q)) :
   Fun prog 34 [.agg #[.int .i64 t.ins,vo,vu],vx] I [] (fun v I' _ => valR (opsR t.ops (xs.map NV.q)) v I') := by
 have hol : os.length = t.ops.length := by rw [← ht.eq,List.length_map]
 have hoc : ∀ {i : Nat} {o : OpV},os[i]? = some o → t.ops[i]? = some o.c := fun {i o} h => by rw [← ht.eq,List.getElem?_map,h]; rfl
 have hml : (os.map OpV.cells).length = t.ops.length := by rw [List.length_map,hol]
 have hxl : (xs.map NV.cells).length = xs.length := List.length_map _
 intro w hw
 refine quu _ func34 rfl ntmps34 rfl ?_ hw;refine sR ?_;refine qo trivial rfl rfl rfl (fun b2 => ?_);refine qh trivial rfl zeroValue39 rfl (fun b4 => ?_);refine qh trivial rfl zeroValue35 rfl (fun b5 => ?_);refine nS ?_;refine oV ?_;refine qux trivial rfl ?_;refine nU ?_;refine oV ?_;refine qw trivial rfl underlying39 rfl (hpt.s) ?_;refine oV ?_;refine oN (tC (cB ?_));refine qu (ι := Nat × List RV × Value × Hp) [2,4,5,11,12] (.cons rfl (.cons rfl (.cons rfl (.cons rfl (.cons rfl .nil))))) (fun x => xs.length - x.1) (fun x E0 => (13,.int .i64 (x.1 : Nat)) :: E0) (fun x => St w [] x.2.2.2 [.row x.2.2.1 48 3 x.2.1.length (rcs x.2.1).flatten,.box b4 (.cells #[x.2.2.1] 39 (0,0)),.box b5 (.cells #[.int .i64 0] 35 (0,0)),.box b2 (.cells #[.int .i64 t.ins,vo,vu] 34 (0,0))]) (fun x => (∀ r ∈ x.2.1,r.ok x.2.2.2) ∧ x.2.1.map RV.q = (xs.map NV.q).take x.1 ∧ x.2.1.length = x.1 ∧ x.1 ≤ xs.length ∧ Ext w.heap.size I x.2.2.2) ((0,[],.slice none 0 0,I)) (sC rfl (sC rfl (sC rfl (sC rfl (sC rfl (sC rfl sN)))))) (fun _ h => (h.nilRow 48 3).sort (by repeat constructor)) (⟨fun r hr => (by cases hr),rfl,rfl,Nat.zero_le _,Ext.refl _ _⟩) ?_;rintro ⟨i,rs,u,I1⟩ ⟨hrs,hq1,hri,hl1,hx1⟩
 try dsimp only
 simp only at hrs hq1 hri hl1 hx1
 refine sR ?_;refine oV ?_;refine oN (tC (cS ?_));refine cC rfl (fun h1 => ?_) (fun h1 => ?_)
 ·
  have f1 := h1;try simp only [bl] at f1
  have hil : i < xs.length := by omega
  obtain ⟨x,hxi⟩ : ∃ x,xs[i]? = some x := ⟨xs[i],List.getElem?_eq_getElem hil⟩
  have hxm := List.mem_of_getElem? hxi
  obtain ⟨hxn,hxd⟩ := (hpt.le hx1.le).ok x hxm
  have hxb := hxs x hxm
  refine cK (tC (cS (cB (sR ?_))));refine vk trivial rfl underlying39 sizeOf48 rfl ((hpt.le hx1.le).s) rfl (by omega) ?_;refine y7 trivial rfl isAgg48 sizeOf48 rfl rfl (NV.at_ (hpt.le hx1.le) hxi) ?_;refine qh trivial rfl zeroValue48 rfl (fun b7 => ?_);refine oS sizeOf48 ?_;refine nT ?_;refine qi9 (m := 6) (by kernel_rfl) rfl (fun _ h => h.drawn) ?_;refine a_go [0,1] (by kernel_rfl) rfl (TWs.cons ?_ (TWs.cons ?_ TWs.nil))
  ·
   refine a_op #[true,false,false,false,false,false] rfl rfl ?_;refine oL isAgg39 ?_;refine oN ?_;refine qt ?_;refine a_go [1] (by kernel_rfl) rfl (TWs.cons ?_ TWs.nil);refine a_op #[true,true,false,false,false,false] rfl rfl ?_;refine oA isAgg48 sizeOf48 ?_;refine oN ?_;refine qt ?_;refine a_go [2] (by kernel_rfl) rfl (TWs.cons ?_ TWs.nil);refine a_op #[true,true,true,false,false,false] rfl rfl ?_;refine oI call30 rfl (qea x.neg _ _ _ _ hxn hxd (Nat.le_trans hxb.1 (by decide)) (Nat.le_trans hxb.2 (by decide))) ?_;rintro _ I2 hx2 ⟨u1,u2,rfl,h1,h2⟩;refine oN ?_;refine qt ?_;refine a_go [3] (by kernel_rfl) rfl (TWs.cons ?_ TWs.nil);refine a_op #[true,true,true,true,false,false] rfl rfl ?_;refine oB underlying39 sizeOf48 zeroValue48 fun b20 => ?_;refine oN ?_;refine qt ?_;refine a_go [4] (by kernel_rfl) rfl (TWs.cons ?_ TWs.nil);refine a_op #[true,true,true,true,true,false] rfl rfl ?_;refine jb trivial rfl underlying39 (jy) (by decide) rfl rfl (fun v' => (by repeat constructor)) (by repeat constructor) rfl (by exact jz h1 h2) (by (unfold maxLen; omega)) (by omega) (fun v21 => ?_);refine oN ?_;refine qt ?_;refine a_go [5] (by kernel_rfl) rfl (TWs.cons ?_ TWs.nil);refine a_op #[true,true,true,true,true,true] rfl rfl ?_;refine vq (u := v21) (by repeat constructor) (fun hcv => ?_);refine qz trivial rfl rfl (hcv).1 sizeOf39 (hcv).2 (by repeat constructor) (by exact Nat.le_of_ble_eq_true rfl) ?_
   refine oN ?_;refine qt ?_;refine zv (by kernel_rfl) ?_;refine qe (tC (cR ?_))
   (refine qf trivial rfl rfl rfl ?_ ?_; (omega))
   refine oV ?_;refine oN ?_
   have hq2 : (rs ++ [(⟨x.q,u1,u2⟩ : RV)]).map RV.q = (xs.map NV.q).take (i + 1) := by
     rw [List.map_append,hq1,List.take_add_one,List.getElem?_map,hxi]; rfl
   exact qj (i + 1, rs ++ [⟨x.q, u1, u2⟩], v21, I2) (sC rfl (sC rfl (sC rfl (sC rfl (sC rfl (sC rfl sN)))))) (fun _ h => by rw [← j8, List.length_append]; exact h.sort (by repeat constructor)) (by show xs.length - (i + 1) < xs.length - i; omega) ⟨fun r hr => by
     rcases List.mem_append.1 hr with hr | hr
     · exact (hrs r hr).le hx2.le
     · rw [List.mem_singleton.1 hr]; exact ⟨h1,h2⟩,hq2,by show (rs ++ [_]).length = _; rw [List.length_append,hri]; rfl,by show i + 1 ≤ _; omega,hx1.trans hx2 (Nat.le_refl _)⟩
  refine a_op #[false,true,false,false,false,false] rfl rfl ?_;refine oA isAgg48 sizeOf48 ?_;refine oN ?_;refine qt ?_;refine a_go [0,2] (by kernel_rfl) rfl (TWs.cons ?_ (TWs.cons ?_ TWs.nil))
  ·
   refine a_op #[true,true,false,false,false,false] rfl rfl ?_;refine oL isAgg39 ?_;refine oN ?_;refine qt ?_;refine a_go [2] (by kernel_rfl) rfl (TWs.cons ?_ TWs.nil);refine a_op #[true,true,true,false,false,false] rfl rfl ?_;refine oI call30 rfl (qea x.neg _ _ _ _ hxn hxd (Nat.le_trans hxb.1 (by decide)) (Nat.le_trans hxb.2 (by decide))) ?_;rintro _ I2 hx2 ⟨u1,u2,rfl,h1,h2⟩;refine oN ?_;refine qt ?_;refine a_go [3] (by kernel_rfl) rfl (TWs.cons ?_ TWs.nil);refine a_op #[true,true,true,true,false,false] rfl rfl ?_;refine oB underlying39 sizeOf48 zeroValue48 fun b20 => ?_;refine oN ?_;refine qt ?_;refine a_go [4] (by kernel_rfl) rfl (TWs.cons ?_ TWs.nil);refine a_op #[true,true,true,true,true,false] rfl rfl ?_;refine jb trivial rfl underlying39 (jy) (by decide) rfl rfl (fun v' => (by repeat constructor)) (by repeat constructor) rfl (by exact jz h1 h2) (by (unfold maxLen; omega)) (by omega) (fun v21 => ?_);refine oN ?_;refine qt ?_;refine a_go [5] (by kernel_rfl) rfl (TWs.cons ?_ TWs.nil);refine a_op #[true,true,true,true,true,true] rfl rfl ?_;refine vq (u := v21) (by repeat constructor) (fun hcv => ?_);refine qz trivial rfl rfl (hcv).1 sizeOf39 (hcv).2 (by repeat constructor) (by exact Nat.le_of_ble_eq_true rfl) ?_;refine oN ?_;refine qt ?_;refine zv (by kernel_rfl) ?_;refine qe (tC (cR ?_))
   (refine qf trivial rfl rfl rfl ?_ ?_; (omega))
   refine oV ?_;refine oN ?_
   have hq2 : (rs ++ [(⟨x.q,u1,u2⟩ : RV)]).map RV.q = (xs.map NV.q).take (i + 1) := by
     rw [List.map_append,hq1,List.take_add_one,List.getElem?_map,hxi]; rfl
   exact qj (i + 1, rs ++ [⟨x.q, u1, u2⟩], v21, I2) (sC rfl (sC rfl (sC rfl (sC rfl (sC rfl (sC rfl sN)))))) (fun _ h => by rw [← j8, List.length_append]; exact h.sort (by repeat constructor)) (by show xs.length - (i + 1) < xs.length - i; omega) ⟨fun r hr => by
     rcases List.mem_append.1 hr with hr | hr
     · exact (hrs r hr).le hx2.le
     · rw [List.mem_singleton.1 hr]; exact ⟨h1,h2⟩,hq2,by show (rs ++ [_]).length = _; rw [List.length_append,hri]; rfl,by show i + 1 ≤ _; omega,hx1.trans hx2 (Nat.le_refl _)⟩
  refine a_op #[false,true,true,false,false,false] rfl rfl ?_;refine oI call30 rfl (qea x.neg _ _ _ _ hxn hxd (Nat.le_trans hxb.1 (by decide)) (Nat.le_trans hxb.2 (by decide))) ?_;rintro _ I2 hx2 ⟨u1,u2,rfl,h1,h2⟩;refine oN ?_;refine qt ?_;refine a_go [0,3] (by kernel_rfl) rfl (TWs.cons ?_ (TWs.cons ?_ TWs.nil))
  ·
   refine a_op #[true,true,true,false,false,false] rfl rfl ?_;refine oL isAgg39 ?_;refine oN ?_;refine qt ?_;refine a_go [3] (by kernel_rfl) rfl (TWs.cons ?_ TWs.nil);refine a_op #[true,true,true,true,false,false] rfl rfl ?_;refine oB underlying39 sizeOf48 zeroValue48 fun b20 => ?_;refine oN ?_;refine qt ?_;refine a_go [4] (by kernel_rfl) rfl (TWs.cons ?_ TWs.nil);refine a_op #[true,true,true,true,true,false] rfl rfl ?_;refine jb trivial rfl underlying39 (jy) (by decide) rfl rfl (fun v' => (by repeat constructor)) (by repeat constructor) rfl (by exact jz h1 h2) (by (unfold maxLen; omega)) (by omega) (fun v21 => ?_);refine oN ?_;refine qt ?_;refine a_go [5] (by kernel_rfl) rfl (TWs.cons ?_ TWs.nil);refine a_op #[true,true,true,true,true,true] rfl rfl ?_;refine vq (u := v21) (by repeat constructor) (fun hcv => ?_);refine qz trivial rfl rfl (hcv).1 sizeOf39 (hcv).2 (by repeat constructor) (by exact Nat.le_of_ble_eq_true rfl) ?_;refine oN ?_;refine qt ?_;refine zv (by kernel_rfl) ?_;refine qe (tC (cR ?_))
   (refine qf trivial rfl rfl rfl ?_ ?_; (omega))
   refine oV ?_;refine oN ?_
   have hq2 : (rs ++ [(⟨x.q,u1,u2⟩ : RV)]).map RV.q = (xs.map NV.q).take (i + 1) := by
     rw [List.map_append,hq1,List.take_add_one,List.getElem?_map,hxi]; rfl
   exact qj (i + 1, rs ++ [⟨x.q, u1, u2⟩], v21, I2) (sC rfl (sC rfl (sC rfl (sC rfl (sC rfl (sC rfl sN)))))) (fun _ h => by rw [← j8, List.length_append]; exact h.sort (by repeat constructor)) (by show xs.length - (i + 1) < xs.length - i; omega) ⟨fun r hr => by
     rcases List.mem_append.1 hr with hr | hr
     · exact (hrs r hr).le hx2.le
     · rw [List.mem_singleton.1 hr]; exact ⟨h1,h2⟩,hq2,by show (rs ++ [_]).length = _; rw [List.length_append,hri]; rfl,by show i + 1 ≤ _; omega,hx1.trans hx2 (Nat.le_refl _)⟩
  refine a_op #[false,true,true,true,false,false] rfl rfl ?_;refine oB underlying39 sizeOf48 zeroValue48 fun b20 => ?_;refine oN ?_;refine qt ?_;refine a_go [0] (by kernel_rfl) rfl (TWs.cons ?_ TWs.nil);refine a_op #[true,true,true,true,false,false] rfl rfl ?_;refine oL isAgg39 ?_;refine oN ?_;refine qt ?_;refine a_go [4] (by kernel_rfl) rfl (TWs.cons ?_ TWs.nil);refine a_op #[true,true,true,true,true,false] rfl rfl ?_;refine jb trivial rfl underlying39 (jy) (by decide) rfl rfl (fun v' => (by repeat constructor)) (by repeat constructor) rfl (by exact jz h1 h2) (by (unfold maxLen; omega)) (by omega) (fun v21 => ?_);refine oN ?_;refine qt ?_;refine a_go [5] (by kernel_rfl) rfl (TWs.cons ?_ TWs.nil);refine a_op #[true,true,true,true,true,true] rfl rfl ?_;refine vq (u := v21) (by repeat constructor) (fun hcv => ?_);refine qz trivial rfl rfl (hcv).1 sizeOf39 (hcv).2 (by repeat constructor) (by exact Nat.le_of_ble_eq_true rfl) ?_;refine oN ?_;refine qt ?_;refine zv (by kernel_rfl) ?_;refine qe (tC (cR ?_))
  (refine qf trivial rfl rfl rfl ?_ ?_; (omega))
  refine oV ?_;refine oN ?_
  have hq2 : (rs ++ [(⟨x.q,u1,u2⟩ : RV)]).map RV.q = (xs.map NV.q).take (i + 1) := by
    rw [List.map_append,hq1,List.take_add_one,List.getElem?_map,hxi]; rfl
  exact qj (i + 1, rs ++ [⟨x.q, u1, u2⟩], v21, I2) (sC rfl (sC rfl (sC rfl (sC rfl (sC rfl (sC rfl sN)))))) (fun _ h => by rw [← j8, List.length_append]; exact h.sort (by repeat constructor)) (by show xs.length - (i + 1) < xs.length - i; omega) ⟨fun r hr => by
    rcases List.mem_append.1 hr with hr | hr
    · exact (hrs r hr).le hx2.le
    · rw [List.mem_singleton.1 hr]; exact ⟨h1,h2⟩,hq2,by show (rs ++ [_]).length = _; rw [List.length_append,hri]; rfl,by show i + 1 ≤ _; omega,hx1.trans hx2 (Nat.le_refl _)⟩
 have f1 := h1;try simp only [bl] at f1
 refine qq (qc (qc (qp rfl (tC (cS (cS ?_))))))
 have hrl : rs.length = xs.length := by omega
 rw [← hri,hrl,← List.length_map (f := NV.q),List.take_length] at hq1
 refine cR ?_;refine oF 1 underlying34 sizeOf31 ?_;refine oL isAgg31 ?_;refine qw trivial rfl underlying31 rfl (ht.so.le hx1.le) ?_;refine oV ?_;refine oN (tC (cB ?_));refine qu (ι := Nat × List RV × Value × Hp) [4,5,24,25] (.cons rfl (.cons rfl (.cons rfl (.cons rfl .nil)))) (fun x => t.ops.length - x.1) (fun x E0 => (26,.int .i64 (x.1 : Nat)) :: E0) (fun x => St w [] x.2.2.2 [.row x.2.2.1 48 3 x.2.1.length (rcs x.2.1).flatten,.box b4 (.cells #[x.2.2.1] 39 (0,0)),.box b5 (.cells #[.int .i64 0] 35 (0,0)),.box b2 (.cells #[.int .i64 t.ins,vo,vu] 34 (0,0))]) (fun x => x.1 ≤ t.ops.length ∧ x.2.1.length = xs.length + x.1 ∧ (∀ r ∈ x.2.1,r.ok x.2.2.2) ∧ opsR t.ops (xs.map NV.q) = opsR (t.ops.drop x.1) (x.2.1.map RV.q) ∧ ze (t.ops.drop x.1) (x.2.1.map RV.q) ∧ Ext w.heap.size I x.2.2.2) ((0,rs,u,I1)) (sC rfl (sC rfl (sC rfl (sC rfl (sC rfl sN))))) (fun _ h => h) (⟨Nat.zero_le _,hrl,hrs,by rw [hq1]; rfl,by rw [hq1]; exact hok,hx1⟩) ?_;rintro ⟨i,rs,u,I1⟩ ⟨hi,hrl,hrs,hR,hK,hx1⟩
 try dsimp only
 simp only at hi hrl hrs hR hK hx1
 refine sR ?_;refine oV ?_;refine oN (tC (cS ?_));refine cC rfl (fun h2 => ?_) (fun h2 => ?_)
 ·
  have f2 := h2;try simp only [bl] at f2
  have hio : i < os.length := by omega
  obtain ⟨o,ho⟩ : ∃ o,os[i]? = some o := ⟨os[i],List.getElem?_eq_getElem hio⟩
  have hok1 := ht.le hx1.le
  obtain ⟨hvn,hvd⟩ := hok1.ok o (List.mem_of_getElem? ho)
  have hto := hoc ho
  rw [qwv hto] at hR
  obtain ⟨hK1,hK2⟩ := qww hto hK
  refine cK (tC (cS (cB (sR ?_))));refine vk trivial rfl underlying31 sizeOf53 rfl ((ht.le hx1.le).so) rfl (by omega) ?_;refine y7 trivial rfl isAgg53 sizeOf53 rfl rfl (OpV.at_ (ht.le hx1.le) ho) ?_;refine qh trivial rfl zeroValue53 rfl (fun b9 => ?_);refine oS sizeOf53 ?_;refine nT ?_
  cases hq : opR o.c (rs.map RV.q)
  ·
   refine qi9 (m := 7) (by kernel_rfl) rfl (fun _ h => h.drawn) ?_;refine a_go [0,1,2] (by kernel_rfl) rfl (TWs.cons ?_ (TWs.cons ?_ (TWs.cons ?_ TWs.nil)))
   ·
    refine a_op #[true,false,false,false,false,false,false] rfl rfl ?_;refine oL isAgg39 ?_;refine oN ?_;refine qt ?_;refine a_go [1,2] (by kernel_rfl) rfl (TWs.cons ?_ (TWs.cons ?_ TWs.nil))
    ·
     refine a_op #[true,true,false,false,false,false,false] rfl rfl ?_;refine oA isAgg53 sizeOf53 ?_;refine oN ?_;refine qt ?_;refine a_go [2] (by kernel_rfl) rfl (TWs.cons ?_ TWs.nil);refine a_op #[true,true,true,false,false,false,false] rfl rfl ?_;refine oL isAgg39 ?_;refine oN ?_;refine qt ?_;refine a_go [3] (by kernel_rfl) rfl (TWs.cons ?_ TWs.nil);refine a_op #[true,true,true,true,false,false,false] rfl rfl ?_;refine qbi trivial call49 rfl (qco o.c.code o.c.a o.c.b o.c.e o.c.neg o.vn o.vd u o.c.n o.c.d rs hvn hvd hrs hK1 hq) (by repeat constructor) ?_;refine yd (j4 (yd (yd (j4 (yd ?_)))))
     rw [hq] at hR
     refine panD rfl call48 (fun w' hw' => qcp b4 b5 _ _ w' (hw'.sort (by repeat constructor))) (.one isAgg39 rfl (by repeat constructor) (.one isAgg35 rfl (by repeat constructor) .nil)) (leaf hx1 (List.nil_sublist _) ?_)
     rw [hR]; exact qcq
    refine a_op #[true,false,true,false,false,false,false] rfl rfl ?_;refine oL isAgg39 ?_;refine oN ?_;refine qt ?_;refine a_go [1] (by kernel_rfl) rfl (TWs.cons ?_ TWs.nil);refine a_op #[true,true,true,false,false,false,false] rfl rfl ?_;refine oA isAgg53 sizeOf53 ?_;refine oN ?_;refine qt ?_;refine a_go [3] (by kernel_rfl) rfl (TWs.cons ?_ TWs.nil);refine a_op #[true,true,true,true,false,false,false] rfl rfl ?_;refine qbi trivial call49 rfl (qco o.c.code o.c.a o.c.b o.c.e o.c.neg o.vn o.vd u o.c.n o.c.d rs hvn hvd hrs hK1 hq) (by repeat constructor) ?_;refine yd (j4 (yd (yd (j4 (yd ?_)))))
    rw [hq] at hR
    refine panD rfl call48 (fun w' hw' => qcp b4 b5 _ _ w' (hw'.sort (by repeat constructor))) (.one isAgg39 rfl (by repeat constructor) (.one isAgg35 rfl (by repeat constructor) .nil)) (leaf hx1 (List.nil_sublist _) ?_)
    rw [hR]; exact qcq
   ·
    refine a_op #[false,true,false,false,false,false,false] rfl rfl ?_;refine oA isAgg53 sizeOf53 ?_;refine oN ?_;refine qt ?_;refine a_go [0,2] (by kernel_rfl) rfl (TWs.cons ?_ (TWs.cons ?_ TWs.nil))
    ·
     refine a_op #[true,true,false,false,false,false,false] rfl rfl ?_;refine oL isAgg39 ?_;refine oN ?_;refine qt ?_;refine a_go [2] (by kernel_rfl) rfl (TWs.cons ?_ TWs.nil);refine a_op #[true,true,true,false,false,false,false] rfl rfl ?_;refine oL isAgg39 ?_;refine oN ?_;refine qt ?_;refine a_go [3] (by kernel_rfl) rfl (TWs.cons ?_ TWs.nil);refine a_op #[true,true,true,true,false,false,false] rfl rfl ?_;refine qbi trivial call49 rfl (qco o.c.code o.c.a o.c.b o.c.e o.c.neg o.vn o.vd u o.c.n o.c.d rs hvn hvd hrs hK1 hq) (by repeat constructor) ?_;refine yd (j4 (yd (yd (j4 (yd ?_)))))
     rw [hq] at hR
     refine panD rfl call48 (fun w' hw' => qcp b4 b5 _ _ w' (hw'.sort (by repeat constructor))) (.one isAgg39 rfl (by repeat constructor) (.one isAgg35 rfl (by repeat constructor) .nil)) (leaf hx1 (List.nil_sublist _) ?_)
     rw [hR]; exact qcq
    refine a_op #[false,true,true,false,false,false,false] rfl rfl ?_;refine oL isAgg39 ?_;refine oN ?_;refine qt ?_;refine a_go [0,3] (by kernel_rfl) rfl (TWs.cons ?_ (TWs.cons ?_ TWs.nil))
    ·
     refine a_op #[true,true,true,false,false,false,false] rfl rfl ?_;refine oL isAgg39 ?_;refine oN ?_;refine qt ?_;refine a_go [3] (by kernel_rfl) rfl (TWs.cons ?_ TWs.nil);refine a_op #[true,true,true,true,false,false,false] rfl rfl ?_;refine qbi trivial call49 rfl (qco o.c.code o.c.a o.c.b o.c.e o.c.neg o.vn o.vd u o.c.n o.c.d rs hvn hvd hrs hK1 hq) (by repeat constructor) ?_;refine yd (j4 (yd (yd (j4 (yd ?_)))))
     rw [hq] at hR
     refine panD rfl call48 (fun w' hw' => qcp b4 b5 _ _ w' (hw'.sort (by repeat constructor))) (.one isAgg39 rfl (by repeat constructor) (.one isAgg35 rfl (by repeat constructor) .nil)) (leaf hx1 (List.nil_sublist _) ?_)
     rw [hR]; exact qcq
    refine a_op #[false,true,true,true,false,false,false] rfl rfl ?_;refine qbi trivial call49 rfl (qco o.c.code o.c.a o.c.b o.c.e o.c.neg o.vn o.vd u o.c.n o.c.d rs hvn hvd hrs hK1 hq) (by repeat constructor) ?_;refine yd (j4 (yd (yd (j4 (yd ?_)))))
    rw [hq] at hR
    refine panD rfl call48 (fun w' hw' => qcp b4 b5 _ _ w' (hw'.sort (by repeat constructor))) (.one isAgg39 rfl (by repeat constructor) (.one isAgg35 rfl (by repeat constructor) .nil)) (leaf hx1 (List.nil_sublist _) ?_)
    rw [hR]; exact qcq
   refine a_op #[false,false,true,false,false,false,false] rfl rfl ?_;refine oL isAgg39 ?_;refine oN ?_;refine qt ?_;refine a_go [0,1] (by kernel_rfl) rfl (TWs.cons ?_ (TWs.cons ?_ TWs.nil))
   ·
    refine a_op #[true,false,true,false,false,false,false] rfl rfl ?_;refine oL isAgg39 ?_;refine oN ?_;refine qt ?_;refine a_go [1] (by kernel_rfl) rfl (TWs.cons ?_ TWs.nil);refine a_op #[true,true,true,false,false,false,false] rfl rfl ?_;refine oA isAgg53 sizeOf53 ?_;refine oN ?_;refine qt ?_;refine a_go [3] (by kernel_rfl) rfl (TWs.cons ?_ TWs.nil);refine a_op #[true,true,true,true,false,false,false] rfl rfl ?_;refine qbi trivial call49 rfl (qco o.c.code o.c.a o.c.b o.c.e o.c.neg o.vn o.vd u o.c.n o.c.d rs hvn hvd hrs hK1 hq) (by repeat constructor) ?_;refine yd (j4 (yd (yd (j4 (yd ?_)))))
    rw [hq] at hR
    refine panD rfl call48 (fun w' hw' => qcp b4 b5 _ _ w' (hw'.sort (by repeat constructor))) (.one isAgg39 rfl (by repeat constructor) (.one isAgg35 rfl (by repeat constructor) .nil)) (leaf hx1 (List.nil_sublist _) ?_)
    rw [hR]; exact qcq
   refine a_op #[false,true,true,false,false,false,false] rfl rfl ?_;refine oA isAgg53 sizeOf53 ?_;refine oN ?_;refine qt ?_;refine a_go [0,3] (by kernel_rfl) rfl (TWs.cons ?_ (TWs.cons ?_ TWs.nil))
   ·
    refine a_op #[true,true,true,false,false,false,false] rfl rfl ?_;refine oL isAgg39 ?_;refine oN ?_;refine qt ?_;refine a_go [3] (by kernel_rfl) rfl (TWs.cons ?_ TWs.nil);refine a_op #[true,true,true,true,false,false,false] rfl rfl ?_;refine qbi trivial call49 rfl (qco o.c.code o.c.a o.c.b o.c.e o.c.neg o.vn o.vd u o.c.n o.c.d rs hvn hvd hrs hK1 hq) (by repeat constructor) ?_;refine yd (j4 (yd (yd (j4 (yd ?_)))))
    rw [hq] at hR
    refine panD rfl call48 (fun w' hw' => qcp b4 b5 _ _ w' (hw'.sort (by repeat constructor))) (.one isAgg39 rfl (by repeat constructor) (.one isAgg35 rfl (by repeat constructor) .nil)) (leaf hx1 (List.nil_sublist _) ?_)
    rw [hR]; exact qcq
   refine a_op #[false,true,true,true,false,false,false] rfl rfl ?_;refine qbi trivial call49 rfl (qco o.c.code o.c.a o.c.b o.c.e o.c.neg o.vn o.vd u o.c.n o.c.d rs hvn hvd hrs hK1 hq) (by repeat constructor) ?_;refine yd (j4 (yd (yd (j4 (yd ?_)))))
   rw [hq] at hR
   refine panD rfl call48 (fun w' hw' => qcp b4 b5 _ _ w' (hw'.sort (by repeat constructor))) (.one isAgg39 rfl (by repeat constructor) (.one isAgg35 rfl (by repeat constructor) .nil)) (leaf hx1 (List.nil_sublist _) ?_)
   rw [hR]; exact qcq
  rename_i q
  refine qi9 (m := 7) (by kernel_rfl) rfl (fun _ h => h.drawn) ?_;refine a_go [0,1,2] (by kernel_rfl) rfl (TWs.cons ?_ (TWs.cons ?_ (TWs.cons ?_ TWs.nil)))
  ·
   refine a_op #[true,false,false,false,false,false,false] rfl rfl ?_;refine oL isAgg39 ?_;refine oN ?_;refine qt ?_;refine a_go [1,2] (by kernel_rfl) rfl (TWs.cons ?_ (TWs.cons ?_ TWs.nil))
   ·
    refine a_op #[true,true,false,false,false,false,false] rfl rfl ?_;refine oA isAgg53 sizeOf53 ?_;refine oN ?_;refine qt ?_;refine a_go [2] (by kernel_rfl) rfl (TWs.cons ?_ TWs.nil);refine a_op #[true,true,true,false,false,false,false] rfl rfl ?_;refine oL isAgg39 ?_;refine oN ?_;refine qt ?_;refine a_go [3] (by kernel_rfl) rfl (TWs.cons ?_ TWs.nil);refine a_op #[true,true,true,true,false,false,false] rfl rfl ?_;refine oC trivial rfl call49 rfl (qcn o.c.code o.c.a o.c.b o.c.e o.c.neg o.vn o.vd u o.c.n o.c.d rs q hvn hvd hrs hK1 hq) (by repeat constructor) ?_;rintro _ I2 B2 hx2 ⟨rfl,u1,u2,rfl,h1,h2⟩;refine oN ?_;refine qt ?_;refine a_go [4] (by kernel_rfl) rfl (TWs.cons ?_ TWs.nil);refine a_op #[true,true,true,true,true,false,false] rfl rfl ?_;refine oB underlying39 sizeOf48 zeroValue48 fun b34 => ?_;refine oN ?_;refine qt ?_;refine a_go [5] (by kernel_rfl) rfl (TWs.cons ?_ TWs.nil);refine a_op #[true,true,true,true,true,true,false] rfl rfl ?_;refine jb trivial rfl underlying39 (jy) (by decide) rfl rfl (fun v' => (by repeat constructor)) (by repeat constructor) rfl (by exact jz h1 h2) (by (unfold maxLen; omega)) (by omega) (fun v35 => ?_);refine oN ?_;refine qt ?_;refine a_go [6] (by kernel_rfl) rfl (TWs.cons ?_ TWs.nil);refine a_op #[true,true,true,true,true,true,true] rfl rfl ?_;refine vq (u := v35) (by repeat constructor) (fun hcv => ?_)
    refine qz trivial rfl rfl (hcv).1 sizeOf39 (hcv).2 (by repeat constructor) (by exact Nat.le_of_ble_eq_true rfl) ?_;refine oN ?_;refine qt ?_;refine zv (by kernel_rfl) ?_;refine qe (tC (cR ?_))
    (refine qf trivial rfl rfl rfl ?_ ?_; (omega))
    refine oV ?_;refine oN ?_
    rw [hq] at hR
    exact qj (i + 1, rs ++ [⟨q, u1, u2⟩], v35, I2) (sC rfl (sC rfl (sC rfl (sC rfl (sC rfl sN))))) (fun _ h => by rw [← j8, List.length_append]; exact h.sort (by repeat constructor)) (by show t.ops.length - (i + 1) < t.ops.length - i; omega) ⟨by show i + 1 ≤ _; omega, by show (rs ++ [_]).length = _; rw [List.length_append, List.length_singleton]; omega, fun r hr => by
      rcases List.mem_append.1 hr with hr | hr
      · exact (hrs r hr).le hx2.le
      · rw [List.mem_singleton.1 hr]; exact ⟨h1,h2⟩,by show _ = opsR _ ((rs ++ [_]).map RV.q); rw [List.map_append]; exact hR,by show ze _ ((rs ++ [_]).map RV.q); rw [List.map_append]; exact hK2 q hq,hx1.trans hx2 (Nat.le_refl _)⟩
   refine a_op #[true,false,true,false,false,false,false] rfl rfl ?_;refine oL isAgg39 ?_;refine oN ?_;refine qt ?_;refine a_go [1] (by kernel_rfl) rfl (TWs.cons ?_ TWs.nil);refine a_op #[true,true,true,false,false,false,false] rfl rfl ?_;refine oA isAgg53 sizeOf53 ?_;refine oN ?_;refine qt ?_;refine a_go [3] (by kernel_rfl) rfl (TWs.cons ?_ TWs.nil);refine a_op #[true,true,true,true,false,false,false] rfl rfl ?_;refine oC trivial rfl call49 rfl (qcn o.c.code o.c.a o.c.b o.c.e o.c.neg o.vn o.vd u o.c.n o.c.d rs q hvn hvd hrs hK1 hq) (by repeat constructor) ?_;rintro _ I2 B2 hx2 ⟨rfl,u1,u2,rfl,h1,h2⟩;refine oN ?_;refine qt ?_;refine a_go [4] (by kernel_rfl) rfl (TWs.cons ?_ TWs.nil);refine a_op #[true,true,true,true,true,false,false] rfl rfl ?_;refine oB underlying39 sizeOf48 zeroValue48 fun b34 => ?_;refine oN ?_;refine qt ?_;refine a_go [5] (by kernel_rfl) rfl (TWs.cons ?_ TWs.nil);refine a_op #[true,true,true,true,true,true,false] rfl rfl ?_;refine jb trivial rfl underlying39 (jy) (by decide) rfl rfl (fun v' => (by repeat constructor)) (by repeat constructor) rfl (by exact jz h1 h2) (by (unfold maxLen; omega)) (by omega) (fun v35 => ?_);refine oN ?_;refine qt ?_;refine a_go [6] (by kernel_rfl) rfl (TWs.cons ?_ TWs.nil);refine a_op #[true,true,true,true,true,true,true] rfl rfl ?_;refine vq (u := v35) (by repeat constructor) (fun hcv => ?_)
   refine qz trivial rfl rfl (hcv).1 sizeOf39 (hcv).2 (by repeat constructor) (by exact Nat.le_of_ble_eq_true rfl) ?_;refine oN ?_;refine qt ?_;refine zv (by kernel_rfl) ?_;refine qe (tC (cR ?_))
   (refine qf trivial rfl rfl rfl ?_ ?_; (omega))
   refine oV ?_;refine oN ?_
   rw [hq] at hR
   exact qj (i + 1, rs ++ [⟨q, u1, u2⟩], v35, I2) (sC rfl (sC rfl (sC rfl (sC rfl (sC rfl sN))))) (fun _ h => by rw [← j8, List.length_append]; exact h.sort (by repeat constructor)) (by show t.ops.length - (i + 1) < t.ops.length - i; omega) ⟨by show i + 1 ≤ _; omega, by show (rs ++ [_]).length = _; rw [List.length_append, List.length_singleton]; omega, fun r hr => by
     rcases List.mem_append.1 hr with hr | hr
     · exact (hrs r hr).le hx2.le
     · rw [List.mem_singleton.1 hr]; exact ⟨h1,h2⟩,by show _ = opsR _ ((rs ++ [_]).map RV.q); rw [List.map_append]; exact hR,by show ze _ ((rs ++ [_]).map RV.q); rw [List.map_append]; exact hK2 q hq,hx1.trans hx2 (Nat.le_refl _)⟩
  ·
   refine a_op #[false,true,false,false,false,false,false] rfl rfl ?_;refine oA isAgg53 sizeOf53 ?_;refine oN ?_;refine qt ?_;refine a_go [0,2] (by kernel_rfl) rfl (TWs.cons ?_ (TWs.cons ?_ TWs.nil))
   ·
    refine a_op #[true,true,false,false,false,false,false] rfl rfl ?_;refine oL isAgg39 ?_;refine oN ?_;refine qt ?_;refine a_go [2] (by kernel_rfl) rfl (TWs.cons ?_ TWs.nil);refine a_op #[true,true,true,false,false,false,false] rfl rfl ?_;refine oL isAgg39 ?_;refine oN ?_;refine qt ?_;refine a_go [3] (by kernel_rfl) rfl (TWs.cons ?_ TWs.nil);refine a_op #[true,true,true,true,false,false,false] rfl rfl ?_;refine oC trivial rfl call49 rfl (qcn o.c.code o.c.a o.c.b o.c.e o.c.neg o.vn o.vd u o.c.n o.c.d rs q hvn hvd hrs hK1 hq) (by repeat constructor) ?_;rintro _ I2 B2 hx2 ⟨rfl,u1,u2,rfl,h1,h2⟩;refine oN ?_;refine qt ?_;refine a_go [4] (by kernel_rfl) rfl (TWs.cons ?_ TWs.nil);refine a_op #[true,true,true,true,true,false,false] rfl rfl ?_;refine oB underlying39 sizeOf48 zeroValue48 fun b34 => ?_;refine oN ?_;refine qt ?_;refine a_go [5] (by kernel_rfl) rfl (TWs.cons ?_ TWs.nil);refine a_op #[true,true,true,true,true,true,false] rfl rfl ?_;refine jb trivial rfl underlying39 (jy) (by decide) rfl rfl (fun v' => (by repeat constructor)) (by repeat constructor) rfl (by exact jz h1 h2) (by (unfold maxLen; omega)) (by omega) (fun v35 => ?_);refine oN ?_;refine qt ?_;refine a_go [6] (by kernel_rfl) rfl (TWs.cons ?_ TWs.nil);refine a_op #[true,true,true,true,true,true,true] rfl rfl ?_;refine vq (u := v35) (by repeat constructor) (fun hcv => ?_)
    refine qz trivial rfl rfl (hcv).1 sizeOf39 (hcv).2 (by repeat constructor) (by exact Nat.le_of_ble_eq_true rfl) ?_;refine oN ?_;refine qt ?_;refine zv (by kernel_rfl) ?_;refine qe (tC (cR ?_))
    (refine qf trivial rfl rfl rfl ?_ ?_; (omega))
    refine oV ?_;refine oN ?_
    rw [hq] at hR
    exact qj (i + 1, rs ++ [⟨q, u1, u2⟩], v35, I2) (sC rfl (sC rfl (sC rfl (sC rfl (sC rfl sN))))) (fun _ h => by rw [← j8, List.length_append]; exact h.sort (by repeat constructor)) (by show t.ops.length - (i + 1) < t.ops.length - i; omega) ⟨by show i + 1 ≤ _; omega, by show (rs ++ [_]).length = _; rw [List.length_append, List.length_singleton]; omega, fun r hr => by
      rcases List.mem_append.1 hr with hr | hr
      · exact (hrs r hr).le hx2.le
      · rw [List.mem_singleton.1 hr]; exact ⟨h1,h2⟩,by show _ = opsR _ ((rs ++ [_]).map RV.q); rw [List.map_append]; exact hR,by show ze _ ((rs ++ [_]).map RV.q); rw [List.map_append]; exact hK2 q hq,hx1.trans hx2 (Nat.le_refl _)⟩
   refine a_op #[false,true,true,false,false,false,false] rfl rfl ?_;refine oL isAgg39 ?_;refine oN ?_;refine qt ?_;refine a_go [0,3] (by kernel_rfl) rfl (TWs.cons ?_ (TWs.cons ?_ TWs.nil))
   ·
    refine a_op #[true,true,true,false,false,false,false] rfl rfl ?_;refine oL isAgg39 ?_;refine oN ?_;refine qt ?_;refine a_go [3] (by kernel_rfl) rfl (TWs.cons ?_ TWs.nil);refine a_op #[true,true,true,true,false,false,false] rfl rfl ?_;refine oC trivial rfl call49 rfl (qcn o.c.code o.c.a o.c.b o.c.e o.c.neg o.vn o.vd u o.c.n o.c.d rs q hvn hvd hrs hK1 hq) (by repeat constructor) ?_;rintro _ I2 B2 hx2 ⟨rfl,u1,u2,rfl,h1,h2⟩;refine oN ?_;refine qt ?_;refine a_go [4] (by kernel_rfl) rfl (TWs.cons ?_ TWs.nil);refine a_op #[true,true,true,true,true,false,false] rfl rfl ?_;refine oB underlying39 sizeOf48 zeroValue48 fun b34 => ?_;refine oN ?_;refine qt ?_;refine a_go [5] (by kernel_rfl) rfl (TWs.cons ?_ TWs.nil);refine a_op #[true,true,true,true,true,true,false] rfl rfl ?_;refine jb trivial rfl underlying39 (jy) (by decide) rfl rfl (fun v' => (by repeat constructor)) (by repeat constructor) rfl (by exact jz h1 h2) (by (unfold maxLen; omega)) (by omega) (fun v35 => ?_);refine oN ?_;refine qt ?_;refine a_go [6] (by kernel_rfl) rfl (TWs.cons ?_ TWs.nil);refine a_op #[true,true,true,true,true,true,true] rfl rfl ?_;refine vq (u := v35) (by repeat constructor) (fun hcv => ?_);refine qz trivial rfl rfl (hcv).1 sizeOf39 (hcv).2 (by repeat constructor) (by exact Nat.le_of_ble_eq_true rfl) ?_;refine oN ?_;refine qt ?_;refine zv (by kernel_rfl) ?_
    refine qe (tC (cR ?_))
    (refine qf trivial rfl rfl rfl ?_ ?_; (omega))
    refine oV ?_;refine oN ?_
    rw [hq] at hR
    exact qj (i + 1, rs ++ [⟨q, u1, u2⟩], v35, I2) (sC rfl (sC rfl (sC rfl (sC rfl (sC rfl sN))))) (fun _ h => by rw [← j8, List.length_append]; exact h.sort (by repeat constructor)) (by show t.ops.length - (i + 1) < t.ops.length - i; omega) ⟨by show i + 1 ≤ _; omega, by show (rs ++ [_]).length = _; rw [List.length_append, List.length_singleton]; omega, fun r hr => by
      rcases List.mem_append.1 hr with hr | hr
      · exact (hrs r hr).le hx2.le
      · rw [List.mem_singleton.1 hr]; exact ⟨h1,h2⟩,by show _ = opsR _ ((rs ++ [_]).map RV.q); rw [List.map_append]; exact hR,by show ze _ ((rs ++ [_]).map RV.q); rw [List.map_append]; exact hK2 q hq,hx1.trans hx2 (Nat.le_refl _)⟩
   refine a_op #[false,true,true,true,false,false,false] rfl rfl ?_;refine oC trivial rfl call49 rfl (qcn o.c.code o.c.a o.c.b o.c.e o.c.neg o.vn o.vd u o.c.n o.c.d rs q hvn hvd hrs hK1 hq) (by repeat constructor) ?_;rintro _ I2 B2 hx2 ⟨rfl,u1,u2,rfl,h1,h2⟩;refine oN ?_;refine qt ?_;refine a_go [0,4] (by kernel_rfl) rfl (TWs.cons ?_ (TWs.cons ?_ TWs.nil))
   ·
    refine a_op #[true,true,true,true,false,false,false] rfl rfl ?_;refine oL isAgg39 ?_;refine oN ?_;refine qt ?_;refine a_go [4] (by kernel_rfl) rfl (TWs.cons ?_ TWs.nil);refine a_op #[true,true,true,true,true,false,false] rfl rfl ?_;refine oB underlying39 sizeOf48 zeroValue48 fun b34 => ?_;refine oN ?_;refine qt ?_;refine a_go [5] (by kernel_rfl) rfl (TWs.cons ?_ TWs.nil);refine a_op #[true,true,true,true,true,true,false] rfl rfl ?_;refine jb trivial rfl underlying39 (jy) (by decide) rfl rfl (fun v' => (by repeat constructor)) (by repeat constructor) rfl (by exact jz h1 h2) (by (unfold maxLen; omega)) (by omega) (fun v35 => ?_);refine oN ?_;refine qt ?_;refine a_go [6] (by kernel_rfl) rfl (TWs.cons ?_ TWs.nil);refine a_op #[true,true,true,true,true,true,true] rfl rfl ?_;refine vq (u := v35) (by repeat constructor) (fun hcv => ?_);refine qz trivial rfl rfl (hcv).1 sizeOf39 (hcv).2 (by repeat constructor) (by exact Nat.le_of_ble_eq_true rfl) ?_;refine oN ?_;refine qt ?_;refine zv (by kernel_rfl) ?_;refine qe (tC (cR ?_))
    (refine qf trivial rfl rfl rfl ?_ ?_; (omega))
    refine oV ?_;refine oN ?_
    rw [hq] at hR
    exact qj (i + 1, rs ++ [⟨q, u1, u2⟩], v35, I2) (sC rfl (sC rfl (sC rfl (sC rfl (sC rfl sN))))) (fun _ h => by rw [← j8, List.length_append]; exact h.sort (by repeat constructor)) (by show t.ops.length - (i + 1) < t.ops.length - i; omega) ⟨by show i + 1 ≤ _; omega, by show (rs ++ [_]).length = _; rw [List.length_append, List.length_singleton]; omega, fun r hr => by
      rcases List.mem_append.1 hr with hr | hr
      · exact (hrs r hr).le hx2.le
      · rw [List.mem_singleton.1 hr]; exact ⟨h1,h2⟩,by show _ = opsR _ ((rs ++ [_]).map RV.q); rw [List.map_append]; exact hR,by show ze _ ((rs ++ [_]).map RV.q); rw [List.map_append]; exact hK2 q hq,hx1.trans hx2 (Nat.le_refl _)⟩
   refine a_op #[false,true,true,true,true,false,false] rfl rfl ?_;refine oB underlying39 sizeOf48 zeroValue48 fun b34 => ?_;refine oN ?_;refine qt ?_;refine a_go [0] (by kernel_rfl) rfl (TWs.cons ?_ TWs.nil);refine a_op #[true,true,true,true,true,false,false] rfl rfl ?_;refine oL isAgg39 ?_;refine oN ?_;refine qt ?_;refine a_go [5] (by kernel_rfl) rfl (TWs.cons ?_ TWs.nil);refine a_op #[true,true,true,true,true,true,false] rfl rfl ?_;refine jb trivial rfl underlying39 (jy) (by decide) rfl rfl (fun v' => (by repeat constructor)) (by repeat constructor) rfl (by exact jz h1 h2) (by (unfold maxLen; omega)) (by omega) (fun v35 => ?_);refine oN ?_;refine qt ?_;refine a_go [6] (by kernel_rfl) rfl (TWs.cons ?_ TWs.nil);refine a_op #[true,true,true,true,true,true,true] rfl rfl ?_;refine vq (u := v35) (by repeat constructor) (fun hcv => ?_);refine qz trivial rfl rfl (hcv).1 sizeOf39 (hcv).2 (by repeat constructor) (by exact Nat.le_of_ble_eq_true rfl) ?_;refine oN ?_;refine qt ?_;refine zv (by kernel_rfl) ?_;refine qe (tC (cR ?_))
   (refine qf trivial rfl rfl rfl ?_ ?_; (omega))
   refine oV ?_;refine oN ?_
   rw [hq] at hR
   exact qj (i + 1, rs ++ [⟨q, u1, u2⟩], v35, I2) (sC rfl (sC rfl (sC rfl (sC rfl (sC rfl sN))))) (fun _ h => by rw [← j8, List.length_append]; exact h.sort (by repeat constructor)) (by show t.ops.length - (i + 1) < t.ops.length - i; omega) ⟨by show i + 1 ≤ _; omega, by show (rs ++ [_]).length = _; rw [List.length_append, List.length_singleton]; omega, fun r hr => by
     rcases List.mem_append.1 hr with hr | hr
     · exact (hrs r hr).le hx2.le
     · rw [List.mem_singleton.1 hr]; exact ⟨h1,h2⟩,by show _ = opsR _ ((rs ++ [_]).map RV.q); rw [List.map_append]; exact hR,by show ze _ ((rs ++ [_]).map RV.q); rw [List.map_append]; exact hK2 q hq,hx1.trans hx2 (Nat.le_refl _)⟩
  refine a_op #[false,false,true,false,false,false,false] rfl rfl ?_;refine oL isAgg39 ?_;refine oN ?_;refine qt ?_;refine a_go [0,1] (by kernel_rfl) rfl (TWs.cons ?_ (TWs.cons ?_ TWs.nil))
  ·
   refine a_op #[true,false,true,false,false,false,false] rfl rfl ?_;refine oL isAgg39 ?_;refine oN ?_;refine qt ?_;refine a_go [1] (by kernel_rfl) rfl (TWs.cons ?_ TWs.nil);refine a_op #[true,true,true,false,false,false,false] rfl rfl ?_;refine oA isAgg53 sizeOf53 ?_;refine oN ?_;refine qt ?_;refine a_go [3] (by kernel_rfl) rfl (TWs.cons ?_ TWs.nil);refine a_op #[true,true,true,true,false,false,false] rfl rfl ?_;refine oC trivial rfl call49 rfl (qcn o.c.code o.c.a o.c.b o.c.e o.c.neg o.vn o.vd u o.c.n o.c.d rs q hvn hvd hrs hK1 hq) (by repeat constructor) ?_;rintro _ I2 B2 hx2 ⟨rfl,u1,u2,rfl,h1,h2⟩;refine oN ?_;refine qt ?_;refine a_go [4] (by kernel_rfl) rfl (TWs.cons ?_ TWs.nil);refine a_op #[true,true,true,true,true,false,false] rfl rfl ?_;refine oB underlying39 sizeOf48 zeroValue48 fun b34 => ?_;refine oN ?_;refine qt ?_;refine a_go [5] (by kernel_rfl) rfl (TWs.cons ?_ TWs.nil);refine a_op #[true,true,true,true,true,true,false] rfl rfl ?_;refine jb trivial rfl underlying39 (jy) (by decide) rfl rfl (fun v' => (by repeat constructor)) (by repeat constructor) rfl (by exact jz h1 h2) (by (unfold maxLen; omega)) (by omega) (fun v35 => ?_);refine oN ?_;refine qt ?_;refine a_go [6] (by kernel_rfl) rfl (TWs.cons ?_ TWs.nil);refine a_op #[true,true,true,true,true,true,true] rfl rfl ?_;refine vq (u := v35) (by repeat constructor) (fun hcv => ?_)
   refine qz trivial rfl rfl (hcv).1 sizeOf39 (hcv).2 (by repeat constructor) (by exact Nat.le_of_ble_eq_true rfl) ?_;refine oN ?_;refine qt ?_;refine zv (by kernel_rfl) ?_;refine qe (tC (cR ?_))
   (refine qf trivial rfl rfl rfl ?_ ?_; (omega))
   refine oV ?_;refine oN ?_
   rw [hq] at hR
   exact qj (i + 1, rs ++ [⟨q, u1, u2⟩], v35, I2) (sC rfl (sC rfl (sC rfl (sC rfl (sC rfl sN))))) (fun _ h => by rw [← j8, List.length_append]; exact h.sort (by repeat constructor)) (by show t.ops.length - (i + 1) < t.ops.length - i; omega) ⟨by show i + 1 ≤ _; omega, by show (rs ++ [_]).length = _; rw [List.length_append, List.length_singleton]; omega, fun r hr => by
     rcases List.mem_append.1 hr with hr | hr
     · exact (hrs r hr).le hx2.le
     · rw [List.mem_singleton.1 hr]; exact ⟨h1,h2⟩,by show _ = opsR _ ((rs ++ [_]).map RV.q); rw [List.map_append]; exact hR,by show ze _ ((rs ++ [_]).map RV.q); rw [List.map_append]; exact hK2 q hq,hx1.trans hx2 (Nat.le_refl _)⟩
  refine a_op #[false,true,true,false,false,false,false] rfl rfl ?_;refine oA isAgg53 sizeOf53 ?_;refine oN ?_;refine qt ?_;refine a_go [0,3] (by kernel_rfl) rfl (TWs.cons ?_ (TWs.cons ?_ TWs.nil))
  ·
   refine a_op #[true,true,true,false,false,false,false] rfl rfl ?_;refine oL isAgg39 ?_;refine oN ?_;refine qt ?_;refine a_go [3] (by kernel_rfl) rfl (TWs.cons ?_ TWs.nil);refine a_op #[true,true,true,true,false,false,false] rfl rfl ?_;refine oC trivial rfl call49 rfl (qcn o.c.code o.c.a o.c.b o.c.e o.c.neg o.vn o.vd u o.c.n o.c.d rs q hvn hvd hrs hK1 hq) (by repeat constructor) ?_;rintro _ I2 B2 hx2 ⟨rfl,u1,u2,rfl,h1,h2⟩;refine oN ?_;refine qt ?_;refine a_go [4] (by kernel_rfl) rfl (TWs.cons ?_ TWs.nil);refine a_op #[true,true,true,true,true,false,false] rfl rfl ?_;refine oB underlying39 sizeOf48 zeroValue48 fun b34 => ?_;refine oN ?_;refine qt ?_;refine a_go [5] (by kernel_rfl) rfl (TWs.cons ?_ TWs.nil);refine a_op #[true,true,true,true,true,true,false] rfl rfl ?_;refine jb trivial rfl underlying39 (jy) (by decide) rfl rfl (fun v' => (by repeat constructor)) (by repeat constructor) rfl (by exact jz h1 h2) (by (unfold maxLen; omega)) (by omega) (fun v35 => ?_);refine oN ?_;refine qt ?_;refine a_go [6] (by kernel_rfl) rfl (TWs.cons ?_ TWs.nil);refine a_op #[true,true,true,true,true,true,true] rfl rfl ?_;refine vq (u := v35) (by repeat constructor) (fun hcv => ?_);refine qz trivial rfl rfl (hcv).1 sizeOf39 (hcv).2 (by repeat constructor) (by exact Nat.le_of_ble_eq_true rfl) ?_;refine oN ?_;refine qt ?_;refine zv (by kernel_rfl) ?_
   refine qe (tC (cR ?_))
   (refine qf trivial rfl rfl rfl ?_ ?_; (omega))
   refine oV ?_;refine oN ?_
   rw [hq] at hR
   exact qj (i + 1, rs ++ [⟨q, u1, u2⟩], v35, I2) (sC rfl (sC rfl (sC rfl (sC rfl (sC rfl sN))))) (fun _ h => by rw [← j8, List.length_append]; exact h.sort (by repeat constructor)) (by show t.ops.length - (i + 1) < t.ops.length - i; omega) ⟨by show i + 1 ≤ _; omega, by show (rs ++ [_]).length = _; rw [List.length_append, List.length_singleton]; omega, fun r hr => by
     rcases List.mem_append.1 hr with hr | hr
     · exact (hrs r hr).le hx2.le
     · rw [List.mem_singleton.1 hr]; exact ⟨h1,h2⟩,by show _ = opsR _ ((rs ++ [_]).map RV.q); rw [List.map_append]; exact hR,by show ze _ ((rs ++ [_]).map RV.q); rw [List.map_append]; exact hK2 q hq,hx1.trans hx2 (Nat.le_refl _)⟩
  refine a_op #[false,true,true,true,false,false,false] rfl rfl ?_;refine oC trivial rfl call49 rfl (qcn o.c.code o.c.a o.c.b o.c.e o.c.neg o.vn o.vd u o.c.n o.c.d rs q hvn hvd hrs hK1 hq) (by repeat constructor) ?_;rintro _ I2 B2 hx2 ⟨rfl,u1,u2,rfl,h1,h2⟩;refine oN ?_;refine qt ?_;refine a_go [0,4] (by kernel_rfl) rfl (TWs.cons ?_ (TWs.cons ?_ TWs.nil))
  ·
   refine a_op #[true,true,true,true,false,false,false] rfl rfl ?_;refine oL isAgg39 ?_;refine oN ?_;refine qt ?_;refine a_go [4] (by kernel_rfl) rfl (TWs.cons ?_ TWs.nil);refine a_op #[true,true,true,true,true,false,false] rfl rfl ?_;refine oB underlying39 sizeOf48 zeroValue48 fun b34 => ?_;refine oN ?_;refine qt ?_;refine a_go [5] (by kernel_rfl) rfl (TWs.cons ?_ TWs.nil);refine a_op #[true,true,true,true,true,true,false] rfl rfl ?_;refine jb trivial rfl underlying39 (jy) (by decide) rfl rfl (fun v' => (by repeat constructor)) (by repeat constructor) rfl (by exact jz h1 h2) (by (unfold maxLen; omega)) (by omega) (fun v35 => ?_);refine oN ?_;refine qt ?_;refine a_go [6] (by kernel_rfl) rfl (TWs.cons ?_ TWs.nil);refine a_op #[true,true,true,true,true,true,true] rfl rfl ?_;refine vq (u := v35) (by repeat constructor) (fun hcv => ?_);refine qz trivial rfl rfl (hcv).1 sizeOf39 (hcv).2 (by repeat constructor) (by exact Nat.le_of_ble_eq_true rfl) ?_;refine oN ?_;refine qt ?_;refine zv (by kernel_rfl) ?_;refine qe (tC (cR ?_))
   (refine qf trivial rfl rfl rfl ?_ ?_; (omega))
   refine oV ?_;refine oN ?_
   rw [hq] at hR
   exact qj (i + 1, rs ++ [⟨q, u1, u2⟩], v35, I2) (sC rfl (sC rfl (sC rfl (sC rfl (sC rfl sN))))) (fun _ h => by rw [← j8, List.length_append]; exact h.sort (by repeat constructor)) (by show t.ops.length - (i + 1) < t.ops.length - i; omega) ⟨by show i + 1 ≤ _; omega, by show (rs ++ [_]).length = _; rw [List.length_append, List.length_singleton]; omega, fun r hr => by
     rcases List.mem_append.1 hr with hr | hr
     · exact (hrs r hr).le hx2.le
     · rw [List.mem_singleton.1 hr]; exact ⟨h1,h2⟩,by show _ = opsR _ ((rs ++ [_]).map RV.q); rw [List.map_append]; exact hR,by show ze _ ((rs ++ [_]).map RV.q); rw [List.map_append]; exact hK2 q hq,hx1.trans hx2 (Nat.le_refl _)⟩
  refine a_op #[false,true,true,true,true,false,false] rfl rfl ?_;refine oB underlying39 sizeOf48 zeroValue48 fun b34 => ?_;refine oN ?_;refine qt ?_;refine a_go [0] (by kernel_rfl) rfl (TWs.cons ?_ TWs.nil);refine a_op #[true,true,true,true,true,false,false] rfl rfl ?_;refine oL isAgg39 ?_;refine oN ?_;refine qt ?_;refine a_go [5] (by kernel_rfl) rfl (TWs.cons ?_ TWs.nil);refine a_op #[true,true,true,true,true,true,false] rfl rfl ?_;refine jb trivial rfl underlying39 (jy) (by decide) rfl rfl (fun v' => (by repeat constructor)) (by repeat constructor) rfl (by exact jz h1 h2) (by (unfold maxLen; omega)) (by omega) (fun v35 => ?_);refine oN ?_;refine qt ?_;refine a_go [6] (by kernel_rfl) rfl (TWs.cons ?_ TWs.nil);refine a_op #[true,true,true,true,true,true,true] rfl rfl ?_;refine vq (u := v35) (by repeat constructor) (fun hcv => ?_);refine qz trivial rfl rfl (hcv).1 sizeOf39 (hcv).2 (by repeat constructor) (by exact Nat.le_of_ble_eq_true rfl) ?_;refine oN ?_;refine qt ?_;refine zv (by kernel_rfl) ?_;refine qe (tC (cR ?_))
  (refine qf trivial rfl rfl rfl ?_ ?_; (omega))
  refine oV ?_;refine oN ?_
  rw [hq] at hR
  exact qj (i + 1, rs ++ [⟨q, u1, u2⟩], v35, I2) (sC rfl (sC rfl (sC rfl (sC rfl (sC rfl sN))))) (fun _ h => by rw [← j8, List.length_append]; exact h.sort (by repeat constructor)) (by show t.ops.length - (i + 1) < t.ops.length - i; omega) ⟨by show i + 1 ≤ _; omega, by show (rs ++ [_]).length = _; rw [List.length_append, List.length_singleton]; omega, fun r hr => by
    rcases List.mem_append.1 hr with hr | hr
    · exact (hrs r hr).le hx2.le
    · rw [List.mem_singleton.1 hr]; exact ⟨h1,h2⟩,by show _ = opsR _ ((rs ++ [_]).map RV.q); rw [List.map_append]; exact hR,by show ze _ ((rs ++ [_]).map RV.q); rw [List.map_append]; exact hK2 q hq,hx1.trans hx2 (Nat.le_refl _)⟩
 have f2 := h2;try simp only [bl] at f2
 refine qq (qc (qc (qp rfl (tC (sR ?_)))));refine oL isAgg39 ?_;refine vq (u := u) (by repeat constructor) (fun hcv => ?_);refine qz trivial rfl rfl (hcv).1 sizeOf39 (hcv).2 (by repeat constructor) (by exact Nat.le_of_ble_eq_true rfl) ?_;refine oS sizeOf35 ?_;refine nE ?_
 have hio : i = t.ops.length := by omega
 subst hio
 rw [List.drop_length] at hR
 refine retD rfl call48 (B' := [.row u 48 3 rs.length (rcs rs).flatten,.box b4 (.cells #[u] 39 (0,0)),.box b5 (.cells #[.int .i64 0] 35 (0,0)),.box b2 (.cells #[.int .i64 t.ins,vo,vu] 34 (0,0))]) (fun w' hw' => (qwt b4 b5 w').mono (fun e u' w'' ⟨k1,k2,k3⟩ => ⟨k1,k2,by rw [k3]; exact hw'.sort (by repeat constructor)⟩)) (.one isAgg39 rfl (by repeat constructor) (.one isAgg35 rfl (by repeat constructor) .nil)) (qc7 hx1 (qao rs) (qef rs) (by unfold maxLen; omega) (fun I' hl hs => ?_))
 rw [hR]
 exact qwu ⟨rs,hs,fun r hr => (hrs r hr).le hl,rfl⟩
def y9 (t : yr) (xs : List NV) : Except Int (List Rat) :=
 if (vw t).isSome = false then .error 1
 else if (xs.length : Int) ≠ t.ins then .error 8
 else match opsR t.ops (xs.map NV.q) with
   | some l => .ok l
   | none => .error 3
def qdb {α : Type} : Except Int α → Int
 | .ok _ => 0
 | .error e => e
def exR (r : Except Int (List Rat)) (v : Value) (I : Hp) : Prop := ∃ u,v = .tuple #[u,.int .i64 (qdb r)] ∧ (∀ l,r = .ok l → RsV I u l) ∧ (qdb r ≠ 0 → u = .slice none 0 0)
theorem qeh {I : Hp} (e : Int) : exR (.error e) (.tuple #[.slice none 0 0,.int .i64 e]) I := ⟨_,rfl,fun l h => (by cases h),fun _ => rfl⟩
structure EvOK (t : yr) (xs : List NV) : Prop where
 few : ∀ o ∈ t.ops,OpC.few 2000000 o
 nums : ∀ x ∈ xs,x.n.length ≤ 400000 ∧ x.d.length ≤ 400000
 ok : (vw t).isSome = true → (xs.length : Int) = t.ins → xs.length + t.ops.length ≤ 100000 ∧ ze t.ops (xs.map NV.q)
 fin : ∀ l,y9 t xs = .ok l → ∀ q ∈ l,Few 100000 q
theorem qof (t : yr) (vo vu vx : Value) (os : List OpV) (xs : List NV) {I : Hp} (ht : ji I vo vu t os) (hpt : PtV I vx xs) (hk : EvOK t xs) :
   Fun prog 15 [.agg #[.int .i64 t.ins,vo,vu],vx] I [] (fun v I' _ => exR (y9 t xs) v I') := by
 have h1 := ht.so
 have h2 := ht.su
 have hxl : (xs.map NV.cells).length = xs.length := List.length_map _
 intro w hw
 refine qv _ func15 rfl ntmps15 rfl ?_ hw;refine sR ?_;refine qo trivial rfl rfl rfl (fun b2 => ?_);iterate 2 refine oV ?_
 refine oN (tC (cS (cB (sR ?_))));refine oA isAgg34 sizeOf34 ?_;refine oQ call28 rfl (qoa t vo vu os ht hk.few) ?_;iterate 2 refine oV ?_
 refine nT ?_;refine cC rfl (fun h1 => ?_) (fun h1 => ?_)
 ·
  have f1 := h1;try simp only [bl] at f1
  have e : y9 t xs = .error 1 := by unfold y9; rw [if_pos f1]
  refine sR ?_;iterate 2 refine oV ?_
  refine oN (tC (cT (qd (tR ?_))));refine ret2 rfl rfl rfl ?_;refine qg ?_; rw [e]; exact qeh _
 have f1 := h1;try simp only [bl] at f1
 have f1' : ¬ (vw t).isSome = false := by rw [f1]; decide
 refine sR ?_;refine oV ?_;refine qw trivial rfl underlying39 rfl (hpt.s) ?_;refine oF 0 underlying34 sizeOf3 ?_;refine oL isAgg3 ?_;iterate 2 refine oV ?_
 refine nT ?_;refine cC rfl (fun h2 => ?_) (fun h2 => ?_)
 ·
  have f2 := h2;try simp only [bl] at f2
  have e : y9 t xs = .error 8 := by unfold y9; rw [if_neg f1',if_pos (by rw [← hxl]; exact f2)]
  refine sR ?_;iterate 2 refine oV ?_
  refine oN (tC (cT (qd (tR ?_))));refine ret2 rfl rfl rfl ?_;refine qg ?_; rw [e]; exact qeh _
 have f2 := h2;try simp only [bl] at f2
 have hl : (xs.length : Int) = t.ins := by rw [← hxl]; omega
 obtain ⟨hm,hok⟩ := hk.ok f1 hl
 have e : y9 t xs = match opsR t.ops (xs.map NV.q) with | some l => .ok l | none => .error 3 := by unfold y9; rw [if_neg f1',if_neg (by omega)]
 refine cK (qe (tC (sR ?_)));refine oA isAgg34 sizeOf34 ?_;refine oV ?_;refine oI call34 rfl (qwx t vo vu vx os xs ht hpt hk.nums hm hok) ?_;rintro _ I1 hx1 ⟨u,rfl,hr1,hr2⟩;iterate 4 refine oV ?_
 refine nE ?_;refine ret2 rfl rfl rfl ?_;refine leaf hx1 (List.nil_sublist _) ?_
 rw [e]
 cases hc : opsR t.ops (xs.map NV.q) with
 | none => rw [hr2 hc]; exact qeh _
 | some l => exact ⟨u,rfl,fun l' h' => (by cases h'; exact hr1 l hc),fun h' => absurd rfl h'⟩
theorem qjr : ∀ {ops : List OpC} {l r : List Nat}, wgts ops l = some r → r.length = l.length + ops.length
 | [],l,r,h => by cases h; rfl
 | o :: ops, l, r, h => by
   unfold wgts at h
   split at h
   · split at h
     · have := qjr h
       simp only [List.length_append,List.length_cons,List.length_nil] at this ⊢
       omega
     · cases h
   · cases h
theorem qog : ∀ {ops : List OpC} {l r : List Rat}, opsR ops l = some r → r.length = l.length + ops.length
 | [],l,r,h => by cases h; rfl
 | o :: ops, l, r, h => by
   unfold opsR at h
   split at h
   · have := qog h
     simp only [List.length_append,List.length_cons,List.length_nil] at this ⊢
     omega
   · cases h
theorem qhf {t : yr} {l : List Nat} (h : vw t = some l) : 1 ≤ t.ins ∧ t.ins ≤ 40 ∧ 1 ≤ t.outs.length ∧ t.outs.length ≤ 40 ∧ t.ops.length ≤ 400 ∧ wgts t.ops (List.replicate t.ins.toNat 1) = some l ∧ ∀ z ∈ t.outs,0 ≤ z ∧ z < l.length := by
 unfold vw at h
 split at h
 · cases h
 · rename_i hg
   split at h
   · cases h
   · rename_i l' hw
     split at h
     · rename_i hall
       cases h
       refine ⟨by omega,by omega,by omega,by omega,by omega,hw,fun z hz => ?_⟩
       have := List.all_eq_true.1 hall z hz
       simpa using this
     · cases h
theorem qoh {t : yr} {xs : List NV} {l : List Rat} (h : y9 t xs = .ok l) : ∃ w,vw t = some w ∧ (xs.length : Int) = t.ins ∧ opsR t.ops (xs.map NV.q) = some l := by
 unfold y9 at h
 split at h
 · cases h
 · rename_i h1
   split at h
   · cases h
   · rename_i h2
     split at h
     · rename_i l' h3
       cases h
       cases hw : vw t with
       | none => rw [hw] at h1; exact absurd rfl h1
       | some w => exact ⟨w,rfl,by omega,h3⟩
     · cases h
theorem qwy {t : yr} {xs : List NV} {l : List Rat} (h : y9 t xs = .ok l) : t.outs.length ≤ 40 ∧ ∀ z ∈ t.outs,0 ≤ z ∧ z < l.length := by
 obtain ⟨w,h1,h2,h3⟩ := qoh h
 obtain ⟨p1,p2,p3,p4,p5,p6,p7⟩ := qhf h1
 refine ⟨p4,fun z hz => ?_⟩
 have h4 := p7 z hz
 have h5 := qjr p6
 have h6 := qog h3
 rw [List.length_replicate] at h5
 rw [List.length_map] at h6
 omega
def qaf (t : yr) (xs : List NV) : Except Int (List Rat) := match y9 t xs with
 | .error e => .error e
 | .ok l => .ok (t.outs.map (zth l))
theorem qwz {t : yr} {xs : List NV} (h : qdb (y9 t xs) = 0) : ∃ l,y9 t xs = .ok l := by
 unfold y9 at *
 split at h
 · cases h
 · rename_i h1
   rw [if_neg h1]
   split at h
   · cases h
   · rename_i h2
     rw [if_neg h2]
     split at h
     · exact ⟨_,rfl⟩
     · cases h
theorem qoi (t : yr) (vo vu vx : Value) (os : List OpV) (xs : List NV) {I : Hp} (ht : ji I vo vu t os) (hpt : PtV I vx xs) (hk : EvOK t xs) :
   Fun prog 11 [.agg #[.int .i64 t.ins,vo,vu],vx] I [] (fun v I' _ => exR (qaf t xs) v I') := by
 have hsu := ht.su
 have hul := qcm t.outs
 intro w hw
 refine qv _ func11 rfl ntmps11 rfl ?_ hw;refine sR ?_;refine qo trivial rfl rfl rfl (fun b2 => ?_);iterate 2 refine oV ?_
 refine nS ?_;refine oA isAgg34 sizeOf34 ?_;refine oV ?_;refine oI call15 rfl (qof t vo vu vx os xs ht hpt hk) ?_;rintro _ I1 hx1 ⟨ue,rfl,hr1,hr2⟩;iterate 5 refine oV ?_
 refine nU ?_;iterate 2 refine oV ?_
 refine nT ?_;refine cC rfl (fun h1 => ?_) (fun h1 => ?_)
 ·
  have f1 := h1;try simp only [bl] at f1
  have e1 : ∃ e,y9 t xs = .error e := by
    cases hc : y9 t xs with
    | ok l => rw [hc] at f1; exact absurd rfl f1
    | error e => exact ⟨e,rfl⟩
  obtain ⟨e,he⟩ := e1
  have e2 : qaf t xs = .error e := by unfold qaf; rw [he]
  refine sR ?_;iterate 3 refine oV ?_
  refine nF ?_;refine ret2 rfl rfl rfl ?_;refine leaf hx1 (List.nil_sublist _) ?_
  rw [e2,he]; exact qeh e
 have f1 := h1;try simp only [bl] at f1
 obtain ⟨l,hl⟩ := qwz f1
 obtain ⟨rs,hs1,hs2,hs3⟩ := (hr1 l hl).out
 obtain ⟨ho1,ho2⟩ := qwy hl
 have hfin := hk.fin l hl
 have hrl : rs.length = l.length := by rw [← hs3,List.length_map]
 have hcl := qao rs
 have e2 : qaf t xs = .ok (t.outs.map (zth l)) := by unfold qaf; rw [hl]
 refine kS ?_;refine oV ?_;refine nU ?_;refine oF 2 underlying34 sizeOf32 ?_;refine oL isAgg32 ?_;refine qw trivial rfl underlying32 rfl (hsu) ?_;refine oV ?_;refine oN (tC (cB ?_));refine qu (ι := Nat × List RV × Value × Hp) [6,21,22] (.cons rfl (.cons rfl (.cons rfl .nil))) (fun x => t.outs.length - x.1) (fun x E0 => (8,x.2.2.1) :: (23,.int .i64 (x.1 : Nat)) :: E0) (fun x => St w [] x.2.2.2 [.row x.2.2.1 48 3 x.2.1.length (rcs x.2.1).flatten]) (fun x => x.1 ≤ t.outs.length ∧ x.2.1.length = x.1 ∧ (∀ r ∈ x.2.1,r.ok x.2.2.2) ∧ x.2.1.map RV.q = (t.outs.map (zth l)).take x.1 ∧ Ext w.heap.size I x.2.2.2 ∧ I1.Le x.2.2.2) ((0,[],.slice none 0 0,I1)) (sC rfl (sC rfl (sC rfl (sC rfl (sC rfl sN))))) (fun _ h => (h.nilRow 48 3).sort (by repeat constructor)) (⟨Nat.zero_le _,rfl,fun r hr => (by cases hr),rfl,hx1,Hp.Le.refl _⟩) ?_;rintro ⟨i,qs,u,I2⟩ ⟨hi,hqi,hqs,hq2,hx2,hle⟩
 try dsimp only
 simp only at hi hqi hqs hq2 hx2 hle
 refine sR ?_;refine oV ?_;refine oN (tC (cS ?_));refine cC rfl (fun h2 => ?_) (fun h2 => ?_)
 ·
  have f2 := h2;try simp only [bl] at f2
  have hio : i < t.outs.length := by omega
  obtain ⟨z,hz⟩ : ∃ z,t.outs[i]? = some z := ⟨t.outs[i],List.getElem?_eq_getElem hio⟩
  have hzr := ho2 z (List.mem_of_getElem? hz)
  obtain ⟨r,hr,hrm,hrz⟩ := zx rs z (by omega)
  rw [hs3] at hrz
  obtain ⟨hrn,hrd⟩ := (hs2 r hrm).le hle
  have hrf := hfin r.q (by rw [← hs3]; exact List.mem_map_of_mem hrm)
  refine cK (tC (cS (cB (sR ?_))));refine vk trivial rfl underlying32 sizeOf3 rfl (hsu) rfl (by omega) ?_;refine q8 trivial rfl isAgg3 rfl (qhe (hsu.le hx2.le) hz) ?_;refine oV ?_;refine nR ?_;iterate 3 refine oV ?_
  refine vk trivial rfl underlying39 sizeOf48 rfl (hs1.le hle) rfl (by omega) ?_;refine y7 trivial rfl isAgg48 sizeOf48 rfl rfl (fun k y hk => (hs1.le hle).cells _ _ (by unfold rcs; rw [List.getElem?_map,hr]; rfl) k y hk) ?_;refine oI call30 rfl (qea (decide (r.q.num < 0)) _ _ _ _ hrn hrd (yj hrf.num (by decide)) (yj hrf.den (by decide))) ?_;rintro _ I3 hx3 ⟨u1,u2,rfl,h1,h2⟩
  rw [qb,qb,qa3] at h1 h2
  rw [qb,qb,qa3]
  refine oB underlying39 sizeOf48 zeroValue48 fun b33 => ?_;refine jb trivial rfl underlying39 (jy) (by decide) rfl rfl (fun v' => (by repeat constructor)) (by repeat constructor) rfl (by exact jz h1 h2) (by (unfold maxLen; omega)) (by omega) (fun v34 => ?_);refine oV ?_;refine oN (qe (tC (cR ?_)))
  (refine qf trivial rfl rfl rfl ?_ ?_; (omega))
  refine oV ?_;refine oN ?_
  have hq3 : (qs ++ [(⟨r.q,u1,u2⟩ : RV)]).map RV.q = (t.outs.map (zth l)).take (i + 1) := by
    rw [List.map_append,hq2,List.take_add_one,List.getElem?_map,hz]
    show _ ++ [r.q] = _ ++ [zth l z]
    rw [hrz]
  exact qj (i + 1, qs ++ [⟨r.q, u1, u2⟩], v34, I3) (sC rfl (sC rfl (sC rfl (sC rfl (sC rfl sN))))) (fun _ h => by rw [← j8, List.length_append]; exact h.sort (by repeat constructor)) (by show t.outs.length - (i + 1) < t.outs.length - i; omega) ⟨by show i + 1 ≤ _; omega, by show (qs ++ [_]).length = _; rw [List.length_append, hqi]; rfl, fun r hr => by
    rcases List.mem_append.1 hr with hr | hr
    · exact (hqs r hr).le hx3.le
    · rw [List.mem_singleton.1 hr]; exact ⟨h1,h2⟩,hq3,hx2.trans hx3 (Nat.le_refl _),hle.trans hx3.le⟩
 have f2 := h2;try simp only [bl] at f2
 refine qq (qc (qc (qp rfl (tC (sR ?_)))));iterate 3 refine oV ?_
 refine nE ?_;refine ret2 rfl rfl rfl ?_
 have hio : i = t.outs.length := by omega
 subst hio
 rw [← List.length_map (f := zth l),List.take_length] at hq2
 rw [e2]
 exact qc7 hx2 (qao qs) (qef qs) (by unfold maxLen; omega) (fun I' hl hs => ⟨u,rfl,fun l' h' => (by cases h'; exact ⟨qs,hs,fun r hr => (hqs r hr).le hl,hq2⟩),fun h' => absurd rfl h'⟩)
end Go.Proofs.YtoincnplajnpnaaGreat
namespace Go.Tw
open Go Go.RowKit
theorem qei {z : Int} {x : Nat} (O : List Nat) (h : z = x) : wl O ++ [.int .u32 z] = wl (O ++ [x]) := by subst h; simp [wl]
theorem take_more {A : List Nat} {i : Nat} (h : i < A.length) : A.take (i + 1) = A.take i ++ [dg A i] := by
 rw [List.take_add_one,qiw h]; rfl
theorem qw0 {A B : List Nat} (hl : A.length = B.length) (h : ∀ j,j < A.length → dg A j = dg B j) : A = B := by
 refine List.ext_getElem hl fun i h1 h2 => ?_
 have := h i h1
 rwa [qd2 h1,qd2 h2] at this
theorem qoj {A B : List Nat} (hA : Wds A) (hB : Wds B) {i : Nat} (h : dg A i < dg B i) (he : ∀ t,i < t → dg A t = dg B t) : val A < val B := by
 have key : ∀ k,pre A (i + 1 + k) < pre B (i + 1 + k) := by
   intro k
   induction k with
   | zero =>
     have h1 := qay hA i
     show pre A i + dg A i * 4294967296 ^ i < pre B i + dg B i * 4294967296 ^ i
     have h2 : (dg A i + 1) * 4294967296 ^ i ≤ dg B i * 4294967296 ^ i := Nat.mul_le_mul_right _ h
     rw [Nat.add_mul,Nat.one_mul] at h2
     omega
   | succ k ih =>
     show pre A (i + 1 + k) + dg A (i + 1 + k) * 4294967296 ^ (i + 1 + k) < pre B (i + 1 + k) + dg B (i + 1 + k) * 4294967296 ^ (i + 1 + k)
     rw [he (i + 1 + k) (by omega)]
     omega
 have h1 := key (A.length + B.length)
 rwa [zj (by omega),zj (by omega)] at h1
theorem qw1 {A B : List Nat} (he : ∀ t,dg A t = dg B t) : val A = val B := by
 have h1 : pre A (A.length + B.length) = pre B (A.length + B.length) := qgw fun j _ => he j
 rwa [zj (by omega),zj (by omega)] at h1
theorem qjs (O : List Nat) (x : Nat) : val (O ++ [x]) = val O + 4294967296 ^ O.length * x := by
 rw [qi1,zr,qc4,Nat.mul_zero,Nat.add_zero]
theorem Wds.more {O : List Nat} (h : Wds O) {x : Nat} (hx : x < 4294967296) : Wds (O ++ [x]) := h.app (jx hx zc)
section
variable {P : Program} {Q : Exit → Act → World → Prop} {n : Nat} {D : List Deferred} {E : Env} {ops : Array Oper} {w0 : World} {I : Hp} {B B' : List Item}
theorem qok {w : World} {e : TypeId} {u v : Value} {O : List Nat} {I I1 : Hp} {B : List Item} {R : Value → Hp → List Item → Prop} (he : Ext w.heap.size I I1) (hw : Wds O) (hm : O.length ≤ maxLen) (h : ∀ I', I1.Le I' → Ws I' u O → R v I' []) :
   ∀ w',St w [] I1 (.row u e 1 O.length (wl O) :: B) w' → Post w [] I R v w' := by
 rw [← qbx]
 exact qc7 he (yv O) (qfi O) hm fun I' hl hs => h I' hl ⟨hs,hw⟩
theorem qfw {c : Code} {e : TypeId} {u : Value} (O : List Nat) (ht : Take (.row u e 1 O.length (wl O)) B B') (hw : Wds O) (hm : O.length ≤ maxLen)
   (k : ∀ I',Ext w0.heap.size I I' → Ws I' u O → TC P c Q n D E (St w0 [] I' B')) : TC P c Q n D E (St w0 [] I B) :=
 qa0 (xss := wcs O) (by rw [qbx]; exact ht) (yv O) (qfi O) hm fun I' hx hs => k I' hx ⟨hs,hw⟩
end
end Go.Tw
namespace Go.Proofs.YtoincnplajnpnaaGreat
open Go Go.Tw
theorem qw2 (va : Value) (A : List Nat) {I : Hp} (ha : Ws I va A) (hs : A.length ≤ 35184372088600) : Fun prog 84 [va] I [] (fun v _ _ => v = .int .i64 (lowL A : Nat)) := by
 intro w hw
 refine q9 _ func84 rfl ntmps84 rfl ?_ hw;refine sR ?_;refine oV ?_;refine nS ?_;refine oV ?_;refine nU ?_;refine oV ?_;refine oN (tC (cB ?_));refine qu (ι := Nat) [0] (.cons rfl .nil) (fun i => A.length - i) (fun i E0 => (3,.int .i64 (low A i : Nat)) :: (4,.int .i64 (i : Nat)) :: E0) (fun i => St w [] I []) (fun i => i ≤ A.length) (0) (sC rfl (sC rfl (sC rfl sN))) (fun _ h => h) (Nat.zero_le _) ?_;rintro i hi
 try dsimp only
 refine cS (sR ?_);iterate 2 refine oV ?_
 refine vj trivial rfl underlying46 rfl (ha) ?_;refine oV ?_;refine nT ?_;refine cC rfl (fun h1 => ?_) (fun h1 => ?_)
 ·
  have f1 := h1;try simp only [bl] at f1
  refine cK (tC (cS (cB (sR ?_))));iterate 2 refine oV ?_
  refine y4 trivial rfl underlying46 sizeOf83 rfl (ha) rfl (by omega) ?_;refine q8 trivial rfl isAgg83 rfl (ha.cellI (k := i) rfl (by omega)) ?_;refine oV ?_;refine nT ?_;refine cC rfl (fun h2 => ?_) (fun h2 => ?_)
  ·
   have f2 := h2;try simp only [bl] at f2
   have hlow : low A (i + 1) = i + 1 := by show (if dg A i = 0 then low A i else i + 1) = i + 1; rw [if_neg (by omega)]
   refine cR ?_;refine oV ?_
   (refine qf trivial rfl rfl rfl ?_ ?_; (omega))
   refine oV ?_;refine oN (qe (tC (cR ?_)));refine oV ?_
   (refine qf trivial rfl rfl rfl ?_ ?_; (omega))
   refine oV ?_;refine oN ?_;exact qj (i + 1) (by rw [hlow]; exact (sC rfl (sC rfl (sC rfl sN)))) (fun _ h => h) (by show A.length - (i + 1) < A.length - i; omega) (by show i + 1 ≤ _; omega)
  have f2 := h2;try simp only [bl] at f2
  have hlow : low A (i + 1) = low A i := by show (if dg A i = 0 then low A i else i + 1) = low A i; rw [if_pos (by omega)]
  refine cK (qe (tC (cR ?_)));refine oV ?_
  (refine qf trivial rfl rfl rfl ?_ ?_; (omega))
  refine oV ?_;refine oN ?_;exact qj (i + 1) (by rw [hlow]; exact (sC rfl (sC rfl (sC rfl sN)))) (fun _ h => h) (by show A.length - (i + 1) < A.length - i; omega) (by show i + 1 ≤ _; omega)
 have f1 := h1;try simp only [bl] at f1
 refine qq (qc (qc (qp rfl (tC (sR ?_)))));iterate 2 refine oV ?_
 refine nE ?_;refine ret1 rfl rfl ?_
 have hie : i = A.length := by omega
 subst hie; exact qg rfl
theorem qol (va vb : Value) (A B : List Nat) {I : Hp} (ha : Ws I va A) (hb : Ws I vb B) : Fun prog 33 [va,vb] I [] (fun v _ _ => v = .bool (decide (A = B))) := by
 have hs := ha.most
 unfold maxLen at hs
 intro w hw
 refine qv _ func33 rfl ntmps33 rfl ?_ hw;refine sR ?_;refine oV ?_;refine nU ?_;refine oV ?_;refine vj trivial rfl underlying46 rfl (ha) ?_;refine oV ?_;refine vj trivial rfl underlying46 rfl (hb) ?_;refine oV ?_;refine nT ?_;refine cC rfl (fun h1 => ?_) (fun h1 => ?_)
 ·
  have f1 := h1;try simp only [bl] at f1
  refine sR ?_;refine oV ?_;refine nF ?_;refine ret1 rfl rfl ?_;refine qg (congrArg Value.bool ?_); rw [decide_eq_false]; intro e; exact f1 (by rw [e])
 have f1 := h1;try simp only [bl] at f1
 refine cK (tC (cS (sR ?_)));refine oV ?_;refine oN (tC (cB ?_));refine qu (ι := Nat) [0,1] (.cons rfl (.cons rfl .nil)) (fun i => A.length - i) (fun i E0 => (5,.int .i64 (i : Nat)) :: E0) (fun i => St w [] I []) (fun i => i ≤ A.length ∧ ∀ j,j < i → dg A j = dg B j) (0) (sC rfl (sC rfl (sC rfl sN))) (fun _ h => h) (⟨Nat.zero_le _,fun j h => absurd h (Nat.not_lt_zero _)⟩) ?_;rintro i ⟨hi,he⟩
 try dsimp only
 refine cS (sR ?_);iterate 2 refine oV ?_
 refine vj trivial rfl underlying46 rfl (ha) ?_;refine oV ?_;refine nT ?_;refine cC rfl (fun h2 => ?_) (fun h2 => ?_)
 ·
  have f2 := h2;try simp only [bl] at f2
  refine cK (tC (cS (cB (cS ?_))));refine jn (by kernel_rfl) (by kernel_rfl) (fun _ h => h.drawn) ?_;iterate 2 refine oV ?_
  refine y4 trivial rfl underlying46 sizeOf83 rfl (ha) rfl (by omega) ?_;refine q8 trivial rfl isAgg83 rfl (ha.cellI (k := i) rfl (by omega)) ?_;iterate 2 refine oV ?_
  refine y4 trivial rfl underlying46 sizeOf83 rfl (hb) rfl (by omega) ?_;refine q8 trivial rfl isAgg83 rfl (hb.cellI (k := i) rfl (by omega)) ?_;refine oV ?_;refine nT ?_;refine cC rfl (fun h3 => ?_) (fun h3 => ?_)
  ·
   have f3 := h3;try simp only [bl] at f3
   refine sR ?_;refine oV ?_;refine oN (tC (cT (qd (tR (tR (qd (tR ?_)))))));refine ret1 rfl rfl ?_;refine qg (congrArg Value.bool ?_); rw [decide_eq_false]; intro e; exact f3 (by rw [e])
  have f3 := h3;try simp only [bl] at f3
  refine cK (qe (tC (cR ?_)));refine oV ?_
  (refine qf trivial rfl rfl rfl ?_ ?_; (omega))
  refine oV ?_;refine oN ?_
  exact qj (i + 1) (sC rfl (sC rfl (sC rfl sN))) (fun _ h => h) (by show A.length - (i + 1) < A.length - i; omega) ⟨by show i + 1 ≤ _; omega, fun j hj => by
    by_cases hji : j = i
    · subst hji; omega
    · exact he j (by omega)⟩
 have f2 := h2;try simp only [bl] at f2
 refine qq (qc (qc (qp rfl (tC (sR ?_)))));refine oV ?_;refine nE ?_;refine ret1 rfl rfl ?_;refine qg (congrArg Value.bool ?_); rw [decide_eq_true]; exact qw0 (by omega) fun j hj => he j (by omega)
theorem zy (va : Value) (A : List Nat) {I : Hp} (ha : Ws I va A) (hs : A.length ≤ 35184372088600) : Fun prog 55 [va] I [] (fun v I' _ => Ws I' v (natW (val A))) := by
 have hle : lowL A ≤ A.length := qal A _
 intro w hw
 refine q9 _ func55 rfl ntmps55 rfl ?_ hw;refine sR ?_;refine oV ?_;refine nS ?_;refine oV ?_;refine oQ call84 rfl (qw2 _ _ ha hs) ?_;refine oV ?_;refine nS ?_;refine oV ?_;refine nU ?_;refine oV ?_;refine oN (tC (cB ?_));refine qu (ι := Nat × Value) [0,3] (.cons rfl (.cons rfl .nil)) (fun x => lowL A - x.1) (fun x E0 => (4,x.2) :: (5,.int .i64 (x.1 : Nat)) :: E0) (fun x => St w [] I [.row x.2 83 1 x.1 (wl (A.take x.1))]) (fun x => x.1 ≤ lowL A) ((0,.slice none 0 0)) (sC rfl (sC rfl (sC rfl (sC rfl sN)))) (fun _ h => h.nilRow _ _) (Nat.zero_le _) ?_;rintro ⟨i,u⟩ hi
 try dsimp only
 simp only at hi
 refine cS (sR ?_);iterate 3 refine oV ?_
 refine nT ?_;refine cC rfl (fun h1 => ?_) (fun h1 => ?_)
 ·
  have f1 := h1;try simp only [bl] at f1
  refine cK (tC (cS (cB (cR ?_))));iterate 3 refine oV ?_
  refine y4 trivial rfl underlying46 sizeOf83 rfl (ha) rfl (by omega) ?_;refine q8 trivial rfl isAgg83 rfl (ha.cellI (k := i) rfl (by omega)) ?_;refine oB underlying46 sizeOf83 zeroValue83 fun b18 => ?_;refine oD underlying46 qbj fun v19 => ?_;refine oV ?_;refine oN (qe (tC (cR ?_)));refine oV ?_
  (refine qf trivial rfl rfl rfl ?_ ?_; (omega))
  refine oV ?_;refine oN ?_;exact qj (i + 1,v19) (sC rfl (sC rfl (sC rfl (sC rfl sN)))) (fun _ h => by rw [take_more (by omega),← qei _ rfl]; exact h.sort (by repeat constructor)) (by show lowL A - (i + 1) < lowL A - i; omega) (by show i + 1 ≤ _; omega)
 have f1 := h1;try simp only [bl] at f1
 refine qq (qc (qc (qp rfl (tC (sR ?_)))));iterate 2 refine oV ?_
 refine nE ?_;refine ret1 rfl rfl ?_
 have hie : i = lowL A := by omega
 subst hie
 have hlen : (A.take (lowL A)).length = lowL A := by rw [List.length_take]; omega
 have hm := ha.most
 exact fun w' hw' => qok (O := A.take (lowL A)) (Ext.refl _ _) (ha.wds.take _) (by omega) (fun I' hl hs => by rw [← qc5 ha.wds]; exact hs) w' (by rw [hlen]; exact hw')
theorem qcr (va : Value) (A : List Nat) (i : Int) (k : Nat) {I : Hp} (ha : Ws I va A) (hi : i = k) : Fun prog 132 [va,.int .i64 i] I [] (fun v _ _ => v = .int .u64 (dg A k : Nat)) := by
 subst hi
 intro w hw
 refine qv _ func132 rfl ntmps132 rfl ?_ hw;refine sR ?_;refine oV ?_;refine nU ?_;iterate 2 refine oV ?_
 refine' oZ (fun hb7 => ?_) ?_;rotate_left
 ·
  have fb7 := hb7
  try simp only [bl] at fb7
  iterate 2 refine gV hb7 ?_
  refine vj (wS rfl rfl hb7) rfl underlying46 rfl (ha) ?_;refine gV hb7 ?_;refine oN ?_;exact qa rfl
 refine nT ?_;refine cC rfl (fun h1 => ?_) (fun h1 => ?_)
 ·
  have f1 := h1;try simp only [bl] at f1
  refine sR ?_;refine oV ?_;refine nF ?_;refine ret1 rfl rfl ?_;refine qg (congrArg (Value.int .u64) ?_); rw [qbg (by omega)]; rfl
 have f1 := h1;try simp only [bl] at f1
 refine kS ?_;iterate 2 refine oV ?_
 refine y4 trivial rfl underlying46 sizeOf83 rfl (ha) rfl (by omega) ?_;refine q8 trivial rfl isAgg83 rfl (ha.cellI (k := k) rfl (by omega)) ?_
 have hdl := yz ha.wds k
 refine ya trivial rfl underlying83 underlying108 rfl (by rw [IntWalk.u64_in _ (by omega)]) ?_;refine oV ?_;refine nE ?_;refine ret1 rfl rfl ?_;exact qg rfl
theorem qom (n : Nat) {I : Hp} (hn : n < 18446744073709551616) : Fun prog 47 [.int .u64 (n : Int)] I [] (fun v I' _ => Ws I' v (natW n)) := by
 have hnl : (natW n).length ≤ 2 := zt (by rw [show (4294967296 : Nat) ^ 2 = 18446744073709551616 by decide]; exact hn)
 intro w hw
 refine q9 _ func47 rfl ntmps47 rfl ?_ hw;refine sR ?_;refine oV ?_;refine nS ?_;refine oV ?_;refine oN (tC (cS (cB ?_)));refine qu (ι := Nat × List Nat × Value) [] .nil (fun x => x.1) (fun x E0 => (0,.int .u64 (x.1 : Nat)) :: (3,x.2.2) :: E0) (fun x => St w [] I [.row x.2.2 83 1 x.2.1.length (wl x.2.1)]) (fun x => x.2.1 ++ natW x.1 = natW n ∧ x.1 < 18446744073709551616) ((n,[],.slice none 0 0)) (sC rfl (sC rfl sN)) (fun _ h => h.nilRow _ _) (⟨rfl,hn⟩) ?_;rintro ⟨m,O,u⟩ ⟨hO,hm⟩
 try dsimp only
 simp only at hO hm; have hol : O.length ≤ 2 := by rw [← hO,List.length_append] at hnl; omega
 refine cS (sR ?_);iterate 2 refine oV ?_
 refine nT ?_;refine cC rfl (fun h1 => ?_) (fun h1 => ?_)
 ·
  have f1 := h1;try simp only [bl] at f1
  have hm0 : m ≠ 0 := by omega
  refine cK (tC (cB (sR ?_)));iterate 2 refine oV ?_
  refine j6 trivial rfl rfl rfl (by omega) ?_;refine ya trivial rfl underlying108 underlying83 rfl (by rw [IntWalk.u32_in _ (by omega)]) ?_;refine oB underlying46 sizeOf83 zeroValue83 fun b10 => ?_;refine oD underlying46 qbj fun v11 => ?_;refine oV ?_;refine nR ?_;refine oV ?_;refine qcb trivial rfl rfl rfl (by omega) (by rw [IntWalk.u64_in _ (by omega)]) ?_;refine oV ?_;refine oN (qe ?_);exact qj (m / 4294967296,O ++ [m % 4294967296],v11) (sC rfl (sC rfl sN)) (fun _ h => by rw [← qei O (z := (m : Int) % 4294967296) (by omega),List.length_append]; exact h.sort (by repeat constructor)) (by show m / 4294967296 < m; omega) ⟨by show (O ++ [m % 4294967296]) ++ natW (m / 4294967296) = natW n; rw [← hO,qbw hm0]; simp,by show m / 4294967296 < _; omega⟩
 have f1 := h1;try simp only [bl] at f1
 refine qq (qc (qc (qp rfl (tC (sR ?_)))));iterate 2 refine oV ?_
 refine nE ?_;refine ret1 rfl rfl ?_
 have hm0 : m = 0 := by omega
 subst hm0
 rw [yh,List.append_nil] at hO
 exact qok (Ext.refl _ _) (by rw [hO]; exact j7 n) (by unfold maxLen; omega) (fun I' hl hs => by rw [← hO]; exact hs)
theorem qdc (va vb : Value) (A B : List Nat) {I : Hp} (ha : Ws I va A) (hb : Ws I vb B) (hs : A.length ≤ 35184372088600) (hs2 : B.length ≤ 35184372088600) : Fun prog 100 [va,vb] I [] (fun v _ _ => v = .int .i64 (cmpZ (val A : Nat) (val B : Nat))) := by
 intro w hw
 refine qv _ func100 rfl ntmps100 rfl ?_ hw;refine sR ?_;refine oV ?_;refine nS ?_;refine oV ?_;refine vj trivial rfl underlying46 rfl (ha) ?_;refine oV ?_;refine vj trivial rfl underlying46 rfl (hb) ?_;refine zq trivial rfl rfl rfl ?_;refine oV ?_;refine nU ?_;refine oV ?_
 (refine vy trivial rfl rfl rfl ?_ ?_; (omega))
 refine oV ?_;refine oN (tC (cB ?_));refine qu (ι := Nat × Int) [0,1] (.cons rfl (.cons rfl .nil)) (fun x => x.1) (fun x E0 => (6,.int .i64 x.2) :: E0) (fun x => St w [] I []) (fun x => x.2 = (x.1 : Int) - 1 ∧ x.1 ≤ 35184372088600 ∧ ∀ t,x.1 ≤ t → dg A t = dg B t) ((max A.length B.length,max (A.length : Int) (B.length : Int) - 1)) (sC rfl (sC rfl (sC rfl sN))) (fun _ h => h) (⟨by simp only; omega,by show max A.length B.length ≤ _; omega,fun t ht => by have h9 : max A.length B.length ≤ t := ht; rw [qbg (by omega),qbg (by omega)]⟩) ?_;rintro ⟨j,z⟩ ⟨hz,hj,he⟩
 try dsimp only
 simp only at hz hj he; subst hz
 refine cS (sR ?_);iterate 2 refine oV ?_
 refine nT ?_;refine cC rfl (fun h1 => ?_) (fun h1 => ?_)
 ·
  have f1 := h1;try simp only [bl] at f1
  refine cK (tC (cS (cB (cS (sR ?_)))));iterate 2 refine oV ?_
  refine oQ call132 rfl (qcr _ A _ (j - 1) ha (by omega)) ?_;iterate 2 refine oV ?_
  refine oQ call132 rfl (qcr _ B _ (j - 1) hb (by omega)) ?_;refine oV ?_;refine nT ?_;refine cC rfl (fun h2 => ?_) (fun h2 => ?_)
  ·
   have f2 := h2;try simp only [bl] at f2
   refine sR ?_;refine oV ?_;refine oN (tC (cT (tR (qd (tR (tR (qd (tR ?_))))))));refine ret1 rfl rfl ?_;refine qg (congrArg (Value.int .i64) ?_)
   have := qoj ha.wds hb.wds (i := j - 1) (by omega) (fun t ht => he t (by omega))
   rw [qcj (by omega)]
  have f2 := h2;try simp only [bl] at f2
  refine kS ?_;iterate 2 refine oV ?_
  refine oQ call132 rfl (qcr _ A _ (j - 1) ha (by omega)) ?_;iterate 2 refine oV ?_
  refine oQ call132 rfl (qcr _ B _ (j - 1) hb (by omega)) ?_;refine oV ?_;refine nT ?_;refine cC rfl (fun h3 => ?_) (fun h3 => ?_)
  ·
   have f3 := h3;try simp only [bl] at f3
   refine sR ?_;refine oV ?_;refine oN (tC (cT (qd (tR (tR (qd (tR ?_)))))));refine ret1 rfl rfl ?_;refine qg (congrArg (Value.int .i64) ?_)
   have := qoj hb.wds ha.wds (i := j - 1) (by omega) (fun t ht => (he t (by omega)).symm)
   rw [qd8 (by omega)]
  have f3 := h3;try simp only [bl] at f3
  refine cK (qe (tC (cR ?_)));refine oV ?_
  (refine vy trivial rfl rfl rfl ?_ ?_; (omega))
  refine oV ?_;refine oN ?_
  exact qj (j - 1, (j : Int) - 1 - 1) (sC rfl (sC rfl (sC rfl sN))) (fun _ h => h) (by show j - 1 < j; omega) ⟨by simp only; omega, by show j - 1 ≤ _; omega, fun t ht => by
    have h9 : j - 1 ≤ t := ht
    by_cases htj : t = j - 1
    · subst htj; omega
    · exact he t (by omega)⟩
 have f1 := h1;try simp only [bl] at f1
 refine qq (qc (qc (qp rfl (tC (sR ?_)))));refine oV ?_;refine nE ?_;refine ret1 rfl rfl ?_;refine qg (congrArg (Value.int .i64) ?_)
 rw [qw1 (A := A) (B := B) fun t => he t (by omega),qck]
end Go.Proofs.YtoincnplajnpnaaGreat
namespace Go.Tw
theorem qej {A : List Nat} {k : Nat} (h : A.length ≤ k) : pre A k = val A := zj h
theorem qon {O : List Nat} {T i s c c' a : Nat} (hl : O.length = i) (h : val O + 4294967296 ^ i * c = T) (hs : s + 4294967296 * c' = a + c) : val (O ++ [s]) + 4294967296 ^ (i + 1) * c' = T + a * 4294967296 ^ i := by
 rw [qjs,hl,pow_succ]
 have e1 : 4294967296 ^ i * 4294967296 * c' = 4294967296 ^ i * (4294967296 * c') := Nat.mul_assoc _ _ _
 have e2 : 4294967296 ^ i * s + 4294967296 ^ i * (4294967296 * c') = 4294967296 ^ i * a + 4294967296 ^ i * c := by rw [← Nat.mul_add,← Nat.mul_add,hs]
 have e3 : a * 4294967296 ^ i = 4294967296 ^ i * a := Nat.mul_comm _ _
 rw [e1,e3]
 generalize 4294967296 ^ i * s = x1 at *
 generalize 4294967296 ^ i * (4294967296 * c') = x2 at *
 generalize 4294967296 ^ i * a = x3 at *
 generalize 4294967296 ^ i * c = x4 at *
 omega
theorem qw3 {O : List Nat} {T U i s c c' a b : Nat} (hl : O.length = i) (h : val O + U = T + 4294967296 ^ i * c) (hs : s + b + c = a + 4294967296 * c') : val (O ++ [s]) + (U + b * 4294967296 ^ i) = (T + a * 4294967296 ^ i) + 4294967296 ^ (i + 1) * c' := by
 rw [qjs,hl,pow_succ]
 have e1 : 4294967296 ^ i * 4294967296 * c' = 4294967296 ^ i * (4294967296 * c') := Nat.mul_assoc _ _ _
 have e2 : 4294967296 ^ i * s + 4294967296 ^ i * b + 4294967296 ^ i * c = 4294967296 ^ i * a + 4294967296 ^ i * (4294967296 * c') := by rw [← Nat.mul_add,← Nat.mul_add,← Nat.mul_add,hs]
 have e3 : a * 4294967296 ^ i = 4294967296 ^ i * a := Nat.mul_comm _ _
 have e4 : b * 4294967296 ^ i = 4294967296 ^ i * b := Nat.mul_comm _ _
 rw [e1,e3,e4]
 generalize 4294967296 ^ i * s = x1 at *
 generalize 4294967296 ^ i * (4294967296 * c') = x2 at *
 generalize 4294967296 ^ i * a = x3 at *
 generalize 4294967296 ^ i * b = x5 at *
 generalize 4294967296 ^ i * c = x4 at *
 omega
theorem qw4 {a w c : Nat} (ha : a < 4294967296) (hw : w < 4294967296) (hc : c < 4294967296) : a * w + c < 4294967296 * 4294967296 := by
 have h1 : a * w ≤ 4294967295 * 4294967295 := Nat.mul_le_mul (by omega) (by omega)
 omega
end Go.Tw
namespace Go.Proofs.YtoincnplajnpnaaGreat
open Go Go.Tw
theorem qjt (va vb : Value) (A B : List Nat) {I : Hp} (ha : Ws I va A) (hb : Ws I vb B) (hs : A.length ≤ 35184372088500) (hs2 : B.length ≤ 35184372088500) : Fun prog 124 [va,vb] I [] (fun v I' _ => Ws I' v (natW (val A + val B))) := by
 intro w hw
 refine qv _ func124 rfl ntmps124 rfl ?_ hw;refine sR ?_;refine oV ?_;refine nS ?_;refine oV ?_;refine nS ?_;refine oV ?_;refine nU ?_;refine oV ?_;refine oN (tC (cB ?_));refine qu (ι := Nat × Nat × List Nat × Value) [0,1] (.cons rfl (.cons rfl .nil)) (fun x => max A.length B.length + 1 - x.1) (fun x E0 => (5,x.2.2.2) :: (6,.int .u64 (x.2.1 : Nat)) :: (7,.int .i64 (x.1 : Nat)) :: E0) (fun x => St w [] I [.row x.2.2.2 83 1 x.2.2.1.length (wl x.2.2.1)]) (fun x => x.1 ≤ max A.length B.length + 1 ∧ x.2.1 ≤ 1 ∧ x.2.2.1.length = x.1 ∧ Wds x.2.2.1 ∧ val x.2.2.1 + 4294967296 ^ x.1 * x.2.1 = pre A x.1 + pre B x.1) ((0,0,[],.slice none 0 0)) (sC rfl (sC rfl (sC rfl (sC rfl (sC rfl sN))))) (fun _ h => h.nilRow _ _) (⟨Nat.zero_le _,by decide,rfl,zc,rfl⟩) ?_;rintro ⟨i,c,O,u⟩ ⟨hi,hc,hol,hO,hv⟩
 try dsimp only
 simp only at hi hc hol hO hv; have hda := yz ha.wds i; have hdb := yz hb.wds i
 refine cS (sR ?_);iterate 2 refine oV ?_
 refine vj trivial rfl underlying46 rfl (ha) ?_;refine oV ?_;refine vj trivial rfl underlying46 rfl (hb) ?_;refine zq trivial rfl rfl rfl ?_;refine oV ?_;refine nT ?_;refine cC rfl (fun h1 => ?_) (fun h1 => ?_)
 ·
  have f1 := h1;try simp only [bl] at f1
  refine cK (tC (cS (cB (sR ?_))));iterate 2 refine oV ?_
  refine oQ call132 rfl (qcr _ A _ i ha rfl) ?_;iterate 2 refine oV ?_
  refine oQ call132 rfl (qcr _ B _ i hb rfl) ?_;refine qbf trivial rfl rfl rfl (by rw [IntWalk.u64_in _ (by omega)]) ?_;refine oV ?_;refine qbf trivial rfl rfl rfl (by rw [IntWalk.u64_in _ (by omega)]) ?_;refine oV ?_;refine nS ?_;iterate 2 refine oV ?_
  refine j6 trivial rfl rfl rfl (by omega) ?_;refine ya trivial rfl underlying108 underlying83 rfl (by rw [IntWalk.u32_in _ (by omega)]) ?_;refine oB underlying46 sizeOf83 zeroValue83 fun b31 => ?_;refine oD underlying46 qbj fun v32 => ?_;refine oV ?_;refine nR ?_;refine oV ?_;refine qcb trivial rfl rfl rfl (by omega) (by rw [IntWalk.u64_in _ (by omega)]) ?_;refine oV ?_;refine oN (qe (tC (cR ?_)));refine oV ?_
  (refine qf trivial rfl rfl rfl ?_ ?_; (omega))
  refine oV ?_;refine oN ?_
  have hst := qon (s := (dg A i + dg B i + c) % 4294967296) (c' := (dg A i + dg B i + c) / 4294967296) (a := dg A i + dg B i) hol hv (by omega)
  exact qj (i + 1, (dg A i + dg B i + c) / 4294967296, O ++ [(dg A i + dg B i + c) % 4294967296], v32) (sC rfl (sC rfl (sC rfl (sC rfl (sC rfl sN))))) (fun _ h => by rw [← qei O (z := ((dg A i : Int) + (dg B i : Int) + (c : Int)) % 4294967296) (by omega), List.length_append]; exact h.sort (by repeat constructor)) (by show max A.length B.length + 1 - (i + 1) < max A.length B.length + 1 - i; omega) ⟨by show i + 1 ≤ _; omega, by show (dg A i + dg B i + c) / 4294967296 ≤ 1; omega, by show (O ++ [_]).length = i + 1; rw [List.length_append, hol]; rfl, hO.more (by omega), by
    show val (O ++ [_]) + 4294967296 ^ (i + 1) * _ = (pre A i + dg A i * 4294967296 ^ i) + (pre B i + dg B i * 4294967296 ^ i)
    rw [hst,Nat.add_mul]; omega⟩
 have f1 := h1;try simp only [bl] at f1
 refine qq (qc (qc (qp rfl (tC (cS ?_)))))
 have hie : i = max A.length B.length + 1 := by omega
 rw [qej (by omega),qej (by omega)] at hv
 have hc0 : c = 0 := by
   have h1 := y0 ha.wds
   have h2 := y0 hb.wds
   have h3 : 4294967296 ^ A.length ≤ 4294967296 ^ max A.length B.length := Nat.pow_le_pow_right (by decide) (by omega)
   have h4 : 4294967296 ^ B.length ≤ 4294967296 ^ max A.length B.length := Nat.pow_le_pow_right (by decide) (by omega)
   rw [hie,pow_succ] at hv
   generalize 4294967296 ^ max A.length B.length = P at *
   rcases Nat.eq_zero_or_pos c with h | h
   · exact h
   · have : P * 4294967296 * 1 ≤ P * 4294967296 * c := Nat.mul_le_mul_left _ h
     omega
 subst hc0
 rw [Nat.mul_zero,Nat.add_zero] at hv
 refine qfw O .here hO (by unfold maxLen; omega) (fun I1 hx1 hs1 => ?_);refine cR ?_;refine oV ?_;refine oI call55 rfl (zy _ _ hs1 (by omega)) ?_;rintro u2 I2 hx2 hs2';refine oV ?_;refine nE ?_;refine ret1 rfl rfl ?_;refine leaf (hx1.trans hx2 (Nat.le_refl _)) (List.nil_sublist _) ?_; rw [hv] at hs2'; exact hs2'
theorem qfx (va vb : Value) (A B : List Nat) {I : Hp} (ha : Ws I va A) (hb : Ws I vb B) (hs : A.length ≤ 35184372088500) (hs2 : B.length ≤ 35184372088500) (hle : val B ≤ val A) : Fun prog 101 [va,vb] I [] (fun v I' _ => ∃ u,v = .tuple #[u,.bool true] ∧ Ws I' u (natW (val A - val B))) := by
 have hcmp : ¬ cmpZ (val A : Nat) (val B : Nat) < 0 := by unfold cmpZ; split <;> (try split) <;> omega
 intro w hw
 refine qv _ func101 rfl ntmps101 rfl ?_ hw;refine sR ?_;iterate 2 refine oV ?_
 refine nU ?_;iterate 2 refine oV ?_
 refine oQ call100 rfl (qdc _ _ _ _ ha hb (by omega) (by omega)) ?_;refine oV ?_;refine nT ?_;refine cC rfl (fun h1 => ?_) (fun h1 => ?_)
 ·
  have f1 := h1;try simp only [bl] at f1
  exfalso; exact hcmp f1
 have f1 := h1;try simp only [bl] at f1
 refine kS ?_;refine oV ?_;refine nS ?_;refine oV ?_;refine nU ?_;refine oV ?_;refine oN (tC (cB ?_));refine qu (ι := Nat × Nat × List Nat × Value) [0,1] (.cons rfl (.cons rfl .nil)) (fun x => A.length - x.1) (fun x E0 => (6,x.2.2.2) :: (7,.int .u64 (x.2.1 : Nat)) :: (8,.int .i64 (x.1 : Nat)) :: E0) (fun x => St w [] I [.row x.2.2.2 83 1 x.2.2.1.length (wl x.2.2.1)]) (fun x => x.1 ≤ A.length ∧ x.2.1 ≤ 1 ∧ x.2.2.1.length = x.1 ∧ Wds x.2.2.1 ∧ val x.2.2.1 + pre B x.1 = pre A x.1 + 4294967296 ^ x.1 * x.2.1) ((0,0,[],.slice none 0 0)) (sC rfl (sC rfl (sC rfl (sC rfl (sC rfl sN))))) (fun _ h => h.nilRow _ _) (⟨Nat.zero_le _,by decide,rfl,zc,rfl⟩) ?_;rintro ⟨i,c,O,u⟩ ⟨hi,hc,hol,hO,hv⟩
 try dsimp only
 simp only at hi hc hol hO hv; have hda := yz ha.wds i; have hdb := yz hb.wds i
 refine cS (sR ?_);iterate 2 refine oV ?_
 refine vj trivial rfl underlying46 rfl (ha) ?_;refine oV ?_;refine nT ?_;refine cC rfl (fun h2 => ?_) (fun h2 => ?_)
 ·
  have f2 := h2;try simp only [bl] at f2
  refine cK (tC (cS (cB (sR ?_))));iterate 2 refine oV ?_
  refine oQ call132 rfl (qcr _ A _ i ha rfl) ?_;refine qbf trivial rfl rfl rfl (by rw [IntWalk.u64_in _ (by omega)]) ?_;iterate 2 refine oV ?_
  refine oQ call132 rfl (qcr _ B _ i hb rfl) ?_;refine qgu trivial rfl rfl rfl (by rw [IntWalk.u64_in _ (by omega)]) ?_;refine oV ?_;refine qgu trivial rfl rfl rfl (by rw [IntWalk.u64_in _ (by omega)]) ?_;refine oV ?_;refine nS ?_;iterate 2 refine oV ?_
  refine j6 trivial rfl rfl rfl (by omega) ?_;refine ya trivial rfl underlying108 underlying83 rfl (by rw [IntWalk.u32_in _ (by omega)]) ?_;refine oB underlying46 sizeOf83 zeroValue83 fun b34 => ?_;refine oD underlying46 qbj fun v35 => ?_;refine oV ?_;refine nR ?_;refine oV ?_;refine qcb trivial rfl rfl rfl (by omega) (by rw [IntWalk.u64_in _ (by omega)]) ?_;refine qgu trivial rfl rfl rfl (by rw [IntWalk.u64_in _ (by omega)]) ?_;refine oV ?_;refine oN (qe (tC (cR ?_)));refine oV ?_
  (refine qf trivial rfl rfl rfl ?_ ?_; (omega))
  refine oV ?_;refine oN ?_
  have hst := qw3 (s := (4294967296 + dg A i - dg B i - c) % 4294967296) (c' := 1 - (4294967296 + dg A i - dg B i - c) / 4294967296) (a := dg A i) (b := dg B i) hol hv (by omega)
  have e7 : (1 : Int) - (4294967296 + (dg A i : Int) - (dg B i : Int) - (c : Int)) / 4294967296 = ((1 - (4294967296 + dg A i - dg B i - c) / 4294967296 : Nat) : Int) := by omega
  exact qj (i + 1,1 - (4294967296 + dg A i - dg B i - c) / 4294967296,O ++ [(4294967296 + dg A i - dg B i - c) % 4294967296],v35) (by rw [e7]; exact (sC rfl (sC rfl (sC rfl (sC rfl (sC rfl sN)))))) (fun _ h => by rw [← qei O (z := (4294967296 + (dg A i : Int) - (dg B i : Int) - (c : Int)) % 4294967296) (by omega),List.length_append]; exact h.sort (by repeat constructor)) (by show A.length - (i + 1) < A.length - i; omega) ⟨by show i + 1 ≤ _; omega,by show 1 - _ ≤ 1; omega,by show (O ++ [_]).length = i + 1; rw [List.length_append,hol]; rfl,hO.more (by omega),hst⟩
 have f2 := h2;try simp only [bl] at f2
 refine qq (qc (qc (qp rfl (tC (cS ?_)))))
 have hie : i = A.length := by omega
 subst hie
 rw [qej (Nat.le_refl _)] at hv
 have hB : pre B A.length = val B := by
   rcases Nat.lt_or_ge A.length B.length with hlt | hge
   · have h1 := qms (l := B) (i := A.length) (by omega)
     have h2 := y0 ha.wds
     have h3 : val (B.drop A.length) = 0 := by
       rcases Nat.eq_zero_or_pos (val (B.drop A.length)) with h | h
       · exact h
       · have : 4294967296 ^ A.length * 1 ≤ 4294967296 ^ A.length * val (B.drop A.length) := Nat.mul_le_mul_left _ h
         omega
     rw [h3,Nat.mul_zero] at h1
     omega
   · exact qej hge
 have hc0 : c = 0 := by
   have h2 := y0 hO
   rw [hol] at h2
   rw [hB] at hv
   rcases Nat.eq_zero_or_pos c with h | h
   · exact h
   · have : 4294967296 ^ A.length * 1 ≤ 4294967296 ^ A.length * c := Nat.mul_le_mul_left _ h
     omega
 subst hc0
 rw [hB,Nat.mul_zero,Nat.add_zero] at hv
 refine qfw O .here hO (by unfold maxLen; omega) (fun I1 hx1 hs1 => ?_);refine cR ?_;refine oV ?_;refine oI call55 rfl (zy _ _ hs1 (by omega)) ?_;rintro u2 I2 hx2 hs2';iterate 2 refine oV ?_
 refine nE ?_;refine ret2 rfl rfl rfl ?_;refine leaf (hx1.trans hx2 (Nat.le_refl _)) (List.nil_sublist _) ⟨u2,rfl,?_⟩; rw [show val O = val A - val B by omega] at hs2'; exact hs2'
theorem qdd (va : Value) (A : List Nat) (y c0 : Nat) {I : Hp} (ha : Ws I va A) (hs : A.length ≤ 35184372088500) (hy : y < 4294967296) (hc0 : c0 < 4294967296) : Fun prog 103 [va,.int .u32 (y : Int),.int .u32 (c0 : Int)] I [] (fun v I' _ => Ws I' v (natW (val A * y + c0))) := by
 intro w hw
 refine j5 _ func103 rfl ntmps103 rfl ?_ hw;refine sR ?_;refine oV ?_;refine nS ?_;refine oV ?_;refine nS ?_;refine oV ?_;refine ya trivial rfl underlying83 underlying108 rfl (by rw [IntWalk.u64_in _ (by omega)]) ?_;refine oV ?_;refine nU ?_;refine oV ?_;refine oN (tC (cB ?_));refine qu (ι := Nat × Nat × List Nat × Value) [0,1] (.cons rfl (.cons rfl .nil)) (fun x => A.length - x.1) (fun x E0 => (7,x.2.2.2) :: (8,.int .u64 (x.2.1 : Nat)) :: (9,.int .i64 (x.1 : Nat)) :: E0) (fun x => St w [] I [.row x.2.2.2 83 1 x.2.2.1.length (wl x.2.2.1)]) (fun x => x.1 ≤ A.length ∧ x.2.1 < 4294967296 ∧ x.2.2.1.length = x.1 ∧ Wds x.2.2.1 ∧ val x.2.2.1 + 4294967296 ^ x.1 * x.2.1 = pre A x.1 * y + c0) ((0,c0,[],.slice none 0 0)) (sC rfl (sC rfl (sC rfl (sC rfl (sC rfl sN))))) (fun _ h => h.nilRow _ _) (⟨Nat.zero_le _,hc0,rfl,zc,by show 0 + 4294967296 ^ 0 * c0 = 0 * y + c0; omega⟩) ?_;rintro ⟨i,c,O,u⟩ ⟨hi,hc,hol,hO,hv⟩
 try dsimp only
 simp only at hi hc hol hO hv; have hda := yz ha.wds i; have hmw := qw4 hda hy hc
 refine cS (sR ?_);iterate 2 refine oV ?_
 refine vj trivial rfl underlying46 rfl (ha) ?_;refine oV ?_;refine nT ?_;refine cC rfl (fun h1 => ?_) (fun h1 => ?_)
 ·
  have f1 := h1;try simp only [bl] at f1
  refine cK (tC (cS (cB (sR ?_))));iterate 2 refine oV ?_
  refine y4 trivial rfl underlying46 sizeOf83 rfl (ha) rfl (by omega) ?_;refine q8 trivial rfl isAgg83 rfl (ha.cellI (k := i) rfl (by omega)) ?_;refine ya trivial rfl underlying83 underlying108 rfl (by rw [IntWalk.u64_in _ (by omega)]) ?_;refine oV ?_;refine ya trivial rfl underlying83 underlying108 rfl (by rw [IntWalk.u64_in _ (by omega)]) ?_
  rw [show (dg A i : Int) = ((dg A i : Nat) : Int) from rfl]
  (refine qmm trivial rfl rfl rfl (by rw [IntWalk.u64_in _ (by rw [← Int.natCast_mul]; omega)]) ?_)
  refine oV ?_
  rw [← Int.natCast_mul]
  refine qbf trivial rfl rfl rfl (by rw [IntWalk.u64_in _ (by omega)]) ?_;refine oV ?_;refine nS ?_;iterate 2 refine oV ?_
  refine j6 trivial rfl rfl rfl (by omega) ?_;refine ya trivial rfl underlying108 underlying83 rfl (by rw [IntWalk.u32_in _ (by omega)]) ?_;refine oB underlying46 sizeOf83 zeroValue83 fun b33 => ?_;refine oD underlying46 qbj fun v34 => ?_;refine oV ?_;refine nR ?_;refine oV ?_;refine qcb trivial rfl rfl rfl (by omega) (by rw [IntWalk.u64_in _ (by omega)]) ?_;refine oV ?_;refine oN (qe (tC (cR ?_)));refine oV ?_
  (refine qf trivial rfl rfl rfl ?_ ?_; (omega))
  refine oV ?_;refine oN ?_
  have hst := qon (s := (dg A i * y + c) % 4294967296) (c' := (dg A i * y + c) / 4294967296) (a := dg A i * y) hol hv (by omega)
  exact qj (i + 1, (dg A i * y + c) / 4294967296, O ++ [(dg A i * y + c) % 4294967296], v34) (sC rfl (sC rfl (sC rfl (sC rfl (sC rfl sN))))) (fun _ h => by rw [← qei O (z := (((dg A i * y : Nat) : Int) + (c : Int)) % 4294967296) (by omega), List.length_append]; exact h.sort (by repeat constructor)) (by show A.length - (i + 1) < A.length - i; omega) ⟨by show i + 1 ≤ _; omega, by show (dg A i * y + c) / 4294967296 < 4294967296; omega, by show (O ++ [_]).length = i + 1; rw [List.length_append, hol]; rfl, hO.more (by omega), by
    show val (O ++ [_]) + 4294967296 ^ (i + 1) * _ = (pre A i + dg A i * 4294967296 ^ i) * y + c0
    rw [hst,Nat.add_mul,Nat.mul_right_comm]; omega⟩
 have f1 := h1;try simp only [bl] at f1
 refine qq (qc (qc (qp rfl (tC (cS ?_)))))
 have hie : i = A.length := by omega
 subst hie
 rw [qej (Nat.le_refl _)] at hv
 refine cR ?_;iterate 2 refine oV ?_
 refine ya trivial rfl underlying108 underlying83 rfl (by rw [IntWalk.u32_in _ (by omega)]) ?_;refine oB underlying46 sizeOf83 zeroValue83 fun b40 => ?_;refine oD underlying46 qbj fun v41 => ?_;refine oV ?_;refine oN (tC (cS ?_))
 rw [show wl O ++ ([Value.int .u32 (c : Int)] ++ []) = wl (O ++ [c]) from qei O rfl]
 refine qfw (O ++ [c]) (by rw [List.length_append]; exact .there .here) (hO.more hc) (by rw [List.length_append,hol]; have := ha.most; unfold maxLen at *; show A.length + 1 ≤ _; omega) (fun I1 hx1 hs1 => ?_)
 rw [← hol,← qjs] at hv
 refine cR ?_;refine oV ?_;refine oI call55 rfl (zy _ _ hs1 (by rw [List.length_append,hol]; show A.length + 1 ≤ _; omega)) ?_;rintro u2 I2 hx2 hs2';refine oV ?_;refine nE ?_;refine ret1 rfl rfl ?_;refine leaf (hx1.trans hx2 (Nat.le_refl _)) (List.nil_sublist _) ?_; rw [hv] at hs2'; exact hs2'
theorem qhg (va vb : Value) (A B : List Nat) {I : Hp} (ha : Ws I va A) (hb : Ws I vb B) (hs : A.length ≤ 10000000) (hs2 : B.length ≤ 10000000) : Fun prog 92 [va,vb] I [] (fun v I' _ => Ws I' v (natW (val A * val B))) := by
 have hA := y0 ha.wds
 intro w hw
 refine qv _ func92 rfl ntmps92 rfl ?_ hw;refine sR ?_;refine oV ?_;refine nS ?_;refine oV ?_;refine nU ?_;refine oV ?_;refine oN (tC (cB ?_));refine qu (ι := Nat × Value × Hp) [0,1] (.cons rfl (.cons rfl .nil)) (fun x => B.length - x.1) (fun x E0 => (5,x.2.1) :: (6,.int .i64 (x.1 : Nat)) :: E0) (fun x => St w [] x.2.2 []) (fun x => x.1 ≤ B.length ∧ Ws x.2.2 x.2.1 (natW (val A * pre B x.1)) ∧ Ext w.heap.size I x.2.2) ((0,.slice none 0 0,I)) (sC rfl (sC rfl (sC rfl (sC rfl sN)))) (fun _ h => h) (⟨Nat.zero_le _,by show Ws I _ (natW (val A * 0)); rw [Nat.mul_zero,yh]; exact Ws.nil _,Ext.refl _ _⟩) ?_;rintro ⟨i,u,I1⟩ ⟨hi,hu,hx1⟩
 try dsimp only
 simp only at hi hu hx1; have hdb := yz hb.wds i
 refine cS (sR ?_);iterate 2 refine oV ?_
 refine vj trivial rfl underlying46 rfl (hb) ?_;refine oV ?_;refine nT ?_;refine cC rfl (fun h1 => ?_) (fun h1 => ?_)
 ·
  have f1 := h1;try simp only [bl] at f1
  have hl1 : (natW (val A * dg B i + 0)).length ≤ A.length + 1 := zt (by
    rw [pow_succ,Nat.add_zero]
    exact Nat.mul_lt_mul_of_lt_of_le hA (Nat.le_of_lt hdb) (by decide))
  have hl2 : (natW (val A * pre B i)).length ≤ A.length + i := zt (by
    rw [Nat.pow_add]
    exact Nat.mul_lt_mul'' hA (qay hb.wds i))
  have hB1 := ha.most
  refine cK (tC (cS (cB (cS ?_))));refine yb (m := 10) [] (by repeat constructor) (by kernel_rfl) rfl ?_;refine qT (i := 0) (qB 10 1) (Hp.Le.refl _) rfl rfl (oV qF) ?_;refine qT (i := 2) (qB 10 5) (Hp.Le.refl _) rfl rfl (oV qF) ?_;refine qT (i := 3) (qB 10 13) (Hp.Le.refl _) rfl rfl (oV qF) ?_;refine qT (i := 4) (qB 10 29) (Hp.Le.refl _) rfl rfl (oV qF) ?_;refine qT (i := 5) (qB 10 61) (Hp.Le.refl _) rfl rfl (y4 trivial rfl underlying46 sizeOf83 rfl (hb) rfl (by omega) qF) ?_;refine qT (i := 6) (qB 10 125) (Hp.Le.refl _) rfl rfl (q8 trivial rfl isAgg83 rfl ((hb.le hx1.le).cellI (k := i) rfl (by omega)) qF) ?_;refine h_go [1,7] (by kernel_rfl) rfl (TWHs.cons ?_ (TWHs.cons ?_ TWHs.nil))
  ·
   refine qP (qB 10 127) rfl ?_;refine qiu trivial rfl underlying46 qa1 rfl rfl (by omega) (by omega) (by (unfold maxLen; omega)) (fun v15 => ?_);refine qM (Hp.Le.refl _) ?_;refine qO (i := 7) (qB 10 255) rfl ?_;refine oI call103 rfl (qdd _ A (dg B i) 0 (ha.le hx1.le) (by omega) hdb (by decide)) ?_;rintro u1 I2 hx2 hs1;refine qM (hx2.le) ?_;refine qO (i := 8) (qB 10 511) rfl ?_;refine qfg trivial rfl underlying46 (qbj) (by decide) rfl rfl (fun v' => (by repeat constructor)) (hs1.slc) (qg2 _) (by rw [yv]; unfold maxLen; omega) (by rw [yv]; omega) (fun v22 => ?_);refine qM (hx2.le) ?_;refine qT (i := 9) (qB 10 1023) (hx2.le) rfl rfl (oV qF) ?_;refine qn (by kernel_rfl) ?_;refine tC ?_
   rw [Int.toNat_natCast,qbh,qbx,yv,← show wl (List.replicate i 0 ++ natW (val A * dg B i + 0)) = wl (List.replicate i 0) ++ wl (natW (val A * dg B i + 0)) from List.map_append]
   refine qfw (List.replicate i 0 ++ natW (val A * dg B i + 0)) (by rw [List.length_append,List.length_replicate]; exact .here) ((qby _).app (j7 _)) (by rw [List.length_append,List.length_replicate]; unfold maxLen; omega) (fun I3 hx3 hs3 => ?_);refine cR ?_;iterate 2 refine oV ?_
   refine oI call124 rfl (qjt _ _ _ _ (hu.le (hx2.le.trans hx3.le)) hs3 (by omega) (by rw [List.length_append,List.length_replicate]; omega)) ?_;rintro u4 I4 hx4 hs4;refine oV ?_;refine oN (qe (tC (cR ?_)));refine oV ?_
   (refine qf trivial rfl rfl rfl ?_ ?_; (omega))
   refine oV ?_;refine oN ?_
   rw [qb,qi3,qb,Nat.add_zero] at hs4
   exact qj (i + 1, u4, I4) (sC rfl (sC rfl (sC rfl (sC rfl sN)))) (fun _ h => h.drop (List.nil_sublist _)) (by show B.length - (i + 1) < B.length - i; omega) ⟨by show i + 1 ≤ _; omega, by
     show Ws I4 u4 (natW (val A * (pre B i + dg B i * 4294967296 ^ i)))
     rw [Nat.mul_add,← Nat.mul_assoc,Nat.mul_comm (val A * dg B i) (4294967296 ^ i)]
     exact hs4,hx1.trans (hx2.trans (hx3.trans hx4 (Nat.le_refl _)) (Nat.le_refl _)) (Nat.le_refl _)⟩
  refine qP (qB 10 253) rfl ?_;refine oI call103 rfl (qdd _ A (dg B i) 0 (ha.le hx1.le) (by omega) hdb (by decide)) ?_;rintro u1 I2 hx2 hs1;refine qM (hx2.le) ?_;refine qO (i := 1) (qB 10 255) rfl ?_;refine qiu trivial rfl underlying46 qa1 rfl rfl (by omega) (by omega) (by (unfold maxLen; omega)) (fun v15 => ?_);refine qM (hx2.le) ?_;refine qO (i := 8) (qB 10 511) rfl ?_;refine qfg trivial rfl underlying46 (qbj) (by decide) rfl rfl (fun v' => (by repeat constructor)) (hs1.slc) (qg2 _) (by rw [yv]; unfold maxLen; omega) (by rw [yv]; omega) (fun v22 => ?_);refine qM (hx2.le) ?_;refine qT (i := 9) (qB 10 1023) (hx2.le) rfl rfl (oV qF) ?_;refine qn (by kernel_rfl) ?_;refine tC ?_
  rw [Int.toNat_natCast,qbh,qbx,yv,← show wl (List.replicate i 0 ++ natW (val A * dg B i + 0)) = wl (List.replicate i 0) ++ wl (natW (val A * dg B i + 0)) from List.map_append]
  refine qfw (List.replicate i 0 ++ natW (val A * dg B i + 0)) (by rw [List.length_append,List.length_replicate]; exact .here) ((qby _).app (j7 _)) (by rw [List.length_append,List.length_replicate]; unfold maxLen; omega) (fun I3 hx3 hs3 => ?_);refine cR ?_;iterate 2 refine oV ?_
  refine oI call124 rfl (qjt _ _ _ _ (hu.le (hx2.le.trans hx3.le)) hs3 (by omega) (by rw [List.length_append,List.length_replicate]; omega)) ?_;rintro u4 I4 hx4 hs4;refine oV ?_;refine oN (qe (tC (cR ?_)));refine oV ?_
  (refine qf trivial rfl rfl rfl ?_ ?_; (omega))
  refine oV ?_;refine oN ?_
  rw [qb,qi3,qb,Nat.add_zero] at hs4
  exact qj (i + 1, u4, I4) (sC rfl (sC rfl (sC rfl (sC rfl sN)))) (fun _ h => h.drop (List.nil_sublist _)) (by show B.length - (i + 1) < B.length - i; omega) ⟨by show i + 1 ≤ _; omega, by
    show Ws I4 u4 (natW (val A * (pre B i + dg B i * 4294967296 ^ i)))
    rw [Nat.mul_add,← Nat.mul_assoc,Nat.mul_comm (val A * dg B i) (4294967296 ^ i)]
    exact hs4,hx1.trans (hx2.trans (hx3.trans hx4 (Nat.le_refl _)) (Nat.le_refl _)) (Nat.le_refl _)⟩
 have f1 := h1;try simp only [bl] at f1
 refine qq (qc (qc (qp rfl (tC (sR ?_)))));iterate 2 refine oV ?_
 refine nE ?_;refine ret1 rfl rfl ?_
 have hie : i = B.length := by omega
 subst hie
 rw [qej (Nat.le_refl _)] at hu
 exact leaf hx1 (List.nil_sublist _) hu
theorem qw5 (va : Value) (A : List Nat) (m : Nat) {I : Hp} (ha : Ws I va A) (hs : A.length ≤ 1000000) (hm : m ≤ 100000) : Fun prog 102 [va,.int .i64 (m : Int)] I [] (fun v I' _ => Ws I' v (natW (val A * 2 ^ m))) := by
 have hA := y0 ha.wds
 intro w hw
 refine qv _ func102 rfl ntmps102 rfl ?_ hw;refine sR ?_;refine oV ?_;refine nS ?_;refine oV ?_;refine oI call55 rfl (zy _ _ ha (by omega)) ?_;rintro u1 I1 hx1 hs1;refine oV ?_;refine nU ?_;refine oV ?_;refine oN (tC (cB ?_));refine qu (ι := Nat × Value × Hp) [1] (.cons rfl .nil) (fun x => m - x.1) (fun x E0 => (5,x.2.1) :: (6,.int .i64 (x.1 : Nat)) :: E0) (fun x => St w [] x.2.2 []) (fun x => x.1 ≤ m ∧ Ws x.2.2 x.2.1 (natW (val A * 2 ^ x.1)) ∧ Ext w.heap.size I x.2.2) ((0,u1,I1)) (sC rfl (sC rfl (sC rfl sN))) (fun _ h => h) (⟨Nat.zero_le _,by show Ws I1 u1 (natW (val A * 1)); rw [Nat.mul_one]; exact hs1,hx1⟩) ?_;rintro ⟨i,u,I2⟩ ⟨hi,hu,hx2⟩
 try dsimp only
 simp only at hi hu hx2
 refine cS (sR ?_);iterate 3 refine oV ?_
 refine' oY (fun hb12 => ?_) ?_;rotate_left
 ·
  iterate 2 refine gV hb12 ?_
  refine oN ?_;exact qa rfl
 refine' oY (fun hb16 => ?_) ?_;rotate_left
 ·
  have fb16 := hb16
  try simp only [bl] at fb16
  refine gV hb16 ?_;refine vj (wS rfl rfl hb16) rfl underlying46 rfl (hu) ?_;refine gV hb16 ?_;refine oN ?_;exact qa rfl
 refine nT ?_;refine cC rfl (fun h1 => ?_) (fun h1 => ?_)
 ·
  have f1 := h1;try simp only [bl] at f1
  have hl1 : (natW (val A * 2 ^ i)).length ≤ A.length + (i + 1) := zt (by
    rw [Nat.pow_add]
    refine Nat.mul_lt_mul'' hA ?_
    have h2 : 2 ^ i < 2 ^ (32 * (i + 1)) := Nat.pow_lt_pow_right (by decide) (by omega)
    rwa [Nat.pow_mul] at h2)
  refine cK (tC (cS (cB (cR ?_))));refine oV ?_;refine oI call103 rfl (qdd _ _ 2 0 hu (by omega) (by decide) (by decide)) ?_;rintro u3 I3 hx3 hs3;refine oV ?_;refine oN (qe (tC (cR ?_)));refine oV ?_
  (refine qf trivial rfl rfl rfl ?_ ?_; (omega))
  refine oV ?_;refine oN ?_
  rw [qb,Nat.add_zero,Nat.mul_assoc,← Nat.pow_succ] at hs3
  exact qj (i + 1,u3,I3) (sC rfl (sC rfl (sC rfl sN))) (fun _ h => h) (by show m - (i + 1) < m - i; omega) ⟨by show i + 1 ≤ _; omega,hs3,hx2.trans hx3 (Nat.le_refl _)⟩
 have f1 := h1;try simp only [bl] at f1
 refine qq (qc (qc (qp rfl (tC (sR ?_)))));iterate 2 refine oV ?_
 refine nE ?_;refine ret1 rfl rfl ?_;refine leaf hx2 (List.nil_sublist _) ?_
 by_cases him : i = m
 · subst him; exact hu
 · have h0 : val A * 2 ^ i = 0 := jh.1 (by omega)
   have hp : 0 < 2 ^ i := Nat.pow_pos (by decide)
   have h1 : val A = 0 := by
     rcases Nat.mul_eq_zero.1 h0 with h | h
     · exact h
     · omega
   rw [h1,Nat.zero_mul] at hu ⊢
   exact hu
end Go.Proofs.YtoincnplajnpnaaGreat
namespace Go.Tw
open Go
theorem qw6 {a : Nat} (ha : a < 4294967296) : bits .and .u32 (a : Int) ((1 : Nat) : Int) = ((a % 2 : Nat) : Int) := by
 have h1 : (BitVec.ofInt 32 (a : Int)).toNat = a := by
   rw [BitVec.ofInt_natCast,BitVec.toNat_ofNat]; exact Nat.mod_eq_of_lt (by omega)
 have h2 : (BitVec.ofInt 32 ((1 : Nat) : Int)).toNat = 1 := by
   rw [BitVec.ofInt_natCast,BitVec.toNat_ofNat]
 show IntKind.u32.wrap ((BitVec.ofInt 32 (a : Int) &&& BitVec.ofInt 32 ((1 : Nat) : Int)).toNat : Int) = _
 rw [BitVec.toNat_and,h1,h2,Nat.and_one_is_mod,IntWalk.u32_in _ (by omega)]
section
variable {P : Program} {ops : Array Oper} {rest : List Oper} {n : Nat} {D : List Deferred} {E : Env} {S : World → Prop} {Q : Exit → Act → World → Prop} {d : Nat} {ty : TypeId} {pos : String} {aft : Array Edge} {g : Option (Nat × Bool)}
theorem qw7 {qm : Bool} {x y : Operand} {t t2 : TypeId} {a : Nat} (hg : qi ops E g) (hd : Nat.blt d n = true) (hx : ev E x = some (.int .u32 (a : Int))) (hy : ev E y = some (.int .u32 1)) (h : a < 4294967296)
   (k : TL qm P ops Q rest n D ((d,.int .u32 ((a % 2 : Nat) : Int)) :: E) S) : TL qm P ops Q (⟨some d,.binOp .and t x y t2,ty,pos,aft,g⟩ :: rest) n D E S :=
 o_rd hg hd (v := .int .u32 ((a % 2 : Nat) : Int)) (fun a w ha hw d pos aft g => ⟨w, by
   simp only [execOp,ha.ev hx,ha.ev hy,Sem.run_bind,qb9,Result.andThen_ok]
   rw [binOp_and,intBits_and,show (1 : Int) = ((1 : Nat) : Int) from rfl,qw6 h]
   simp,rfl⟩) k
end
theorem qw8 {A : List Nat} (hA : Wds A) {i : Nat} (h : i / 32 < A.length) : dg A (i / 32) / 2 ^ (i % 32) % 2 = val A / 2 ^ i % 2 := by
 have hr : i % 32 < 32 := Nat.mod_lt _ (by decide)
 have h1 := qms (l := A) (i := i / 32) (by omega)
 have h2 := qi0 h
 have h3 : 2 ^ i = 4294967296 ^ (i / 32) * 2 ^ (i % 32) := by
   rw [qce,← Nat.pow_add]; congr 1; omega
 have h4 : val A / 4294967296 ^ (i / 32) = val (A.drop (i / 32)) := by
   rw [h1,Nat.add_mul_div_left _ _ (pow_pos _),Nat.div_eq_of_lt (qay hA _),Nat.zero_add]
 have h5 : (4294967296 : Nat) = 2 ^ (i % 32) * (2 * 2 ^ (31 - i % 32)) := by
   rw [← Nat.pow_succ',← Nat.pow_add,show i % 32 + (31 - i % 32).succ = 32 by omega]
 rw [h3,← Nat.div_div_eq_div_mul,h4,h2,h5,Nat.mul_assoc,Nat.mul_assoc,Nat.add_mul_div_left _ _ (Nat.pow_pos (by decide)),Nat.add_mul_mod_self_left]
theorem qw9 {a i d q r : Nat} (hd : 0 < d) (hq : q = a / 2 ^ (i + 1) / d) (hr : r = a / 2 ^ (i + 1) % d) :
   (d ≤ 2 * r + a / 2 ^ i % 2 → 2 * q + 1 = a / 2 ^ i / d ∧ 2 * r + a / 2 ^ i % 2 - d = a / 2 ^ i % d) ∧ (¬ d ≤ 2 * r + a / 2 ^ i % 2 → 2 * q = a / 2 ^ i / d ∧ 2 * r + a / 2 ^ i % 2 = a / 2 ^ i % d) := by
 have h1 : a / 2 ^ (i + 1) = a / 2 ^ i / 2 := by rw [Nat.pow_succ,Nat.div_div_eq_div_mul]
 have h2 : r < d := by rw [hr]; exact Nat.mod_lt _ hd
 have h3 := Nat.div_add_mod (a / 2 ^ (i + 1)) d
 rw [← hq,← hr,h1] at h3
 generalize a / 2 ^ i = b at *
 have hb : b % 2 < 2 := Nat.mod_lt _ (by decide)
 have hm : d * (2 * q) = 2 * (d * q) := Nat.mul_left_comm _ _ _
 constructor
 · intro h
   exact qg0 (by rw [Nat.mul_comm,Nat.mul_add,Nat.mul_one,hm]; omega) (by omega)
 · intro h
   exact qg0 (by rw [Nat.mul_comm,hm]; omega) (by omega)
end Go.Tw
namespace Go.Proofs.YtoincnplajnpnaaGreat
open Go Go.Tw
theorem qxa (va : Value) (A : List Nat) (i : Nat) {I : Hp} (ha : Ws I va A) (hs : A.length ≤ 35184372088400) (hi : i < 32 * A.length) : Fun prog 104 [va,.int .i64 (i : Int)] I [] (fun v _ _ => v = .int .u32 ((val A / 2 ^ i % 2 : Nat) : Int)) := by
 have hd := yz ha.wds (i / 32)
 have hd2 : dg A (i / 32) / 2 ^ (i % 32) ≤ dg A (i / 32) := Nat.div_le_self _ _
 intro w hw
 refine qv _ func104 rfl ntmps104 rfl ?_ hw;refine sR ?_;refine oV ?_;refine nS ?_;iterate 2 refine oV ?_
 refine qcb trivial rfl rfl rfl (by omega) (by rw [IntWalk.i64_in _ (by omega)]) ?_
 rw [show (i : Int) / 32 = ((i / 32 : Nat) : Int) by omega]
 refine y4 trivial rfl underlying46 sizeOf83 rfl (ha) rfl (by omega) ?_;refine q8 trivial rfl isAgg83 rfl (ha.cellI (k := i / 32) rfl (by omega)) ?_;refine oV ?_;refine j6 trivial rfl rfl rfl (by omega) ?_
 rw [show (i : Int) % 32 = ((i % 32 : Nat) : Int) by omega]
 refine qd1 (2 ^ (i % 32)) trivial rfl rfl rfl (by omega) (by rw [Int.toNat_natCast,show min (i % 32) IntKind.u32.bits = i % 32 from Nat.min_eq_left (by show i % 32 ≤ 32; omega)]) (by omega) ?_
 rw [show (dg A (i / 32) : Int) / ((2 ^ (i % 32) : Nat) : Int) = ((dg A (i / 32) / 2 ^ (i % 32) : Nat) : Int) from (Int.natCast_ediv _ _).symm]
 refine qw7 trivial rfl rfl rfl (by omega) ?_;refine oV ?_;refine nE ?_;refine ret1 rfl rfl ?_;refine qg (congrArg (Value.int .u32) ?_); rw [qw8 ha.wds (by omega)]
theorem qoo {n b k : Nat} (h : (natW n).length ≤ k) (hb : (natW b).length ≤ k) : (natW (2 * n + b)).length ≤ k + 2 := by
 rw [Nat.two_mul]
 exact qd9 _ _ (k + 1) (qd9 _ _ k h h) (by omega)
theorem qxb {b : Nat} (h : b ≤ 1) : (natW b).length ≤ 1 := zt (by rw [Nat.pow_one]; omega)
theorem qfy (va vb : Value) (A B : List Nat) {I : Hp} (ha : Ws I va A) (hb : Ws I vb B) (hs : A.length ≤ 35184372088400) (hs2 : B.length ≤ 35184372088400) (h0 : 0 < val B) : Fun prog 72 [va,vb] I [] (fun v I' _ => ∃ u1 u2,v = .tuple #[u1,u2,.bool true] ∧ Ws I' u1 (natW (val A / val B)) ∧ Ws I' u2 (natW (val A % val B))) := by
 have hbl : (natW (val B)).length ≤ B.length := qad hb.wds
 have hbz : (natW (val B)).length ≠ 0 := fun e => by have := jh.1 e; omega
 have hA : val A < 2 ^ (32 * A.length) := by have := y0 ha.wds; rwa [qce] at this
 have hal : (natW (val A)).length ≤ A.length := qad ha.wds
 intro w hw
 refine qv _ func72 rfl ntmps72 rfl ?_ hw;refine sR ?_;iterate 3 refine oV ?_
 refine nS ?_;refine oV ?_;refine oI call55 rfl (zy _ _ hb (by omega)) ?_;rintro u1 I1 hx1 hs1;refine oV ?_;refine nU ?_;refine oV ?_;refine vj trivial rfl underlying46 rfl (hs1) ?_;refine oV ?_;refine nT ?_;refine cC rfl (fun h1 => ?_) (fun h1 => ?_)
 ·
  have f1 := h1;try simp only [bl] at f1
  exfalso; omega
 have f1 := h1;try simp only [bl] at f1
 refine kS ?_;refine oV ?_;refine nS ?_;refine oV ?_;refine nU ?_;refine oV ?_;refine vj trivial rfl underlying46 rfl (ha) ?_
 (refine zi trivial rfl rfl rfl ?_ ?_; (omega))
 (refine vy trivial rfl rfl rfl ?_ ?_; (omega))
 refine oV ?_;refine oN (tC (cB ?_));refine qu (ι := Nat × Int × Value × Value × Hp) [0,7] (.cons rfl (.cons rfl .nil)) (fun x => x.1) (fun x E0 => (8,x.2.2.1) :: (9,x.2.2.2.1) :: (10,.int .i64 x.2.1) :: E0) (fun x => St w [] x.2.2.2.2 []) (fun x => x.1 ≤ 32 * A.length ∧ x.2.1 = (x.1 : Int) - 1 ∧ Ws x.2.2.2.2 x.2.2.1 (natW (val A / 2 ^ x.1 / val B)) ∧ Ws x.2.2.2.2 x.2.2.2.1 (natW (val A / 2 ^ x.1 % val B)) ∧ Ext w.heap.size I x.2.2.2.2 ∧ I1.Le x.2.2.2.2) ((32 * A.length,32 * (A.length : Int) - 1,.slice none 0 0,.slice none 0 0,I1)) (sC rfl (sC rfl (sC rfl (sC rfl (sC rfl sN))))) (fun _ h => h) (⟨Nat.le_refl _,by simp only; omega,by simp only; rw [Nat.div_eq_of_lt hA,Nat.zero_div,yh]; exact Ws.nil _,by simp only; rw [Nat.div_eq_of_lt hA,Nat.zero_mod,yh]; exact Ws.nil _,hx1,Hp.Le.refl _⟩) ?_;rintro ⟨j,z,uq,ur,I2⟩ ⟨hj,hz,hq,hr,hx2,hle⟩
 try dsimp only
 simp only at hj hz hq hr hx2 hle; subst hz
 refine cS (sR ?_);iterate 2 refine oV ?_
 refine nT ?_;refine cC rfl (fun h2 => ?_) (fun h2 => ?_)
 ·
  have f2 := h2;try simp only [bl] at f2
  obtain ⟨i,rfl⟩ : ∃ i,j = i + 1 := ⟨j - 1,by omega⟩
  have hql : (natW (val A / 2 ^ (i + 1) / val B)).length ≤ 35184372088400 := Nat.le_trans (y8 (Nat.le_trans (Nat.div_le_self _ _) (Nat.div_le_self _ _))) (Nat.le_trans hal hs)
  have hrl : (natW (val A / 2 ^ (i + 1) % val B)).length ≤ 35184372088400 := Nat.le_trans (y8 (Nat.le_trans (Nat.mod_le _ _) (Nat.div_le_self _ _))) (Nat.le_trans hal hs)
  have hbs := qw9 (a := val A) (i := i) h0 rfl rfl
  have e1 : ((i + 1 : Nat) : Int) - 1 = (i : Nat) := by omega
  rw [e1]
  have hqv : val (natW (val A / 2 ^ (i + 1) / val B)) * 2 + 0 = 2 * (val A / 2 ^ (i + 1) / val B) := by rw [qb]; omega
  have hrv : val (natW (val A / 2 ^ (i + 1) % val B)) * 2 + val A / 2 ^ i % 2 = 2 * (val A / 2 ^ (i + 1) % val B) + val A / 2 ^ i % 2 := by rw [qb]; omega
  refine cK (tC (cS (cB (sR ?_))));refine oV ?_;refine oI call103 rfl (qdd _ _ 2 0 hq (by omega) (by decide) (by decide)) ?_;rintro u3 I3 hx3 hs3;refine oV ?_;refine nS ?_;iterate 3 refine oV ?_
  refine oQ call104 rfl (qxa _ A i (ha.le (hx2.le.trans hx3.le)) (by omega) (by omega)) ?_;refine oI call103 rfl (qdd _ _ 2 (val A / 2 ^ i % 2) (hr.le hx3.le) (by omega) (by decide) (by omega)) ?_;rintro u4 I4 hx4 hs4;refine oV ?_;refine oN (tC (cS ?_))
  rw [hqv] at hs3
  rw [hrv] at hs4
  have hl3 := qoo (n := val A / 2 ^ (i + 1) / val B) (b := 0) hql (by rw [yh]; exact Nat.zero_le _)
  rw [Nat.add_zero] at hl3
  have hl4 := qoo (n := val A / 2 ^ (i + 1) % val B) (b := val A / 2 ^ i % 2) hrl (Nat.le_trans (qxb (by omega)) (by decide))
  refine cR ?_;iterate 2 refine oV ?_
  refine oQ call100 rfl (qdc _ _ _ _ hs4 (hs1.le (hle.trans (hx3.le.trans hx4.le))) (by omega) (by omega)) ?_;refine oV ?_;refine nT ?_;refine cC rfl (fun h3 => ?_) (fun h3 => ?_)
  ·
   have f3 := h3;try simp only [bl] at f3
   rw [qb,qb] at f3
   have hge : val B ≤ 2 * (val A / 2 ^ (i + 1) % val B) + val A / 2 ^ i % 2 := by unfold cmpZ at f3; split at f3 <;> (try split at f3) <;> omega
   obtain ⟨hb1,hb2⟩ := hbs.1 hge
   refine sR ?_;iterate 2 refine oV ?_
   refine oI call101 rfl (qfx _ _ _ _ hs4 (hs1.le (hle.trans (hx3.le.trans hx4.le))) (by omega) (by omega) (by rw [qb,qb]; exact hge)) ?_;rintro _ I5 hx5 ⟨u5,rfl,hs5⟩;iterate 4 refine oV ?_
   refine nR ?_;refine oV ?_;refine oI call103 rfl (qdd _ _ 1 1 (hs3.le (hx4.le.trans hx5.le)) (by omega) (by decide) (by decide)) ?_;rintro u6 I6 hx6 hs6;refine oV ?_;refine oN (qe (tC (cR ?_)));refine oV ?_
   (refine vy trivial rfl rfl rfl ?_ ?_; (omega))
   refine oV ?_;refine oN ?_
   (rw [qb, qb, hb2] at hs5
    rw [qb,Nat.mul_one,hb1] at hs6
    exact qj (i,(i : Int) - 1,u6,u5,I6) (sC rfl (sC rfl (sC rfl (sC rfl (sC rfl sN))))) (fun _ h => h) (by show i < i + 1; omega) ⟨by show i ≤ _; omega,rfl,hs6,hs5.le hx6.le,hx2.trans (hx3.trans (hx4.trans (hx5.trans hx6 (Nat.le_refl _)) (Nat.le_refl _)) (Nat.le_refl _)) (Nat.le_refl _),hle.trans (hx3.le.trans (hx4.le.trans (hx5.le.trans hx6.le)))⟩)
  have f3 := h3;try simp only [bl] at f3
  rw [qb,qb] at f3
  have hge : ¬ val B ≤ 2 * (val A / 2 ^ (i + 1) % val B) + val A / 2 ^ i % 2 := by unfold cmpZ at f3; split at f3 <;> (try split at f3) <;> omega
  obtain ⟨hb1,hb2⟩ := hbs.2 hge
  refine cK (qe (tC (cR ?_)));refine oV ?_
  (refine vy trivial rfl rfl rfl ?_ ?_; (omega))
  refine oV ?_;refine oN ?_
  (rw [hb2] at hs4
   rw [hb1] at hs3
   exact qj (i,(i : Int) - 1,u3,u4,I4) (sC rfl (sC rfl (sC rfl (sC rfl (sC rfl sN))))) (fun _ h => h) (by show i < i + 1; omega) ⟨by show i ≤ _; omega,rfl,hs3.le hx4.le,hs4,hx2.trans (hx3.trans hx4 (Nat.le_refl _)) (Nat.le_refl _),hle.trans (hx3.le.trans hx4.le)⟩)
 have f2 := h2;try simp only [bl] at f2
 refine qq (qc (qc (qp rfl (tC (sR ?_)))));iterate 5 refine oV ?_
 refine nE ?_;refine ret3 rfl rfl rfl rfl ?_
 have hj0 : j = 0 := by omega
 subst hj0
 rw [Nat.pow_zero,Nat.div_one] at hq hr
 exact leaf hx2 (List.nil_sublist _) ⟨uq,ur,rfl,hq,hr⟩
theorem qop (va : Value) (A : List Nat) (d : Nat) {I : Hp} (ha : Ws I va A) (hs : A.length ≤ 35184372088400) (hd0 : 0 < d) (hd : d < 4294967296) : Fun prog 56 [va,.int .u32 (d : Int)] I [] (fun v I' _ => ∃ u,v = .tuple #[u,.int .u32 ((val A % d : Nat) : Int),.bool true] ∧ Ws I' u (natW (val A / d))) := by
 have hv1 : val [d] = d := by rw [zr,qc4]; omega
 intro w hw
 refine qv _ func56 rfl ntmps56 rfl ?_ hw;refine sR ?_;iterate 3 refine oV ?_
 refine nS ?_;iterate 2 refine oV ?_
 refine oB underlying46 sizeOf83 zeroValue83 fun b13 => ?_;refine qaz [d] .here (jx hd zc) (by unfold maxLen; simp) (fun I1 hx1 hs1 => ?_);refine oI call72 rfl (qfy _ _ A [d] (ha.le hx1.le) hs1 hs (by simp) (by rw [hv1]; exact hd0)) ?_;rintro _ I2 hx2 ⟨u1,u2,rfl,hq,hr⟩;iterate 7 refine oV ?_
 refine oN (tC (cS (cS ?_)))
 rw [hv1] at hq hr
 have hrd : val A % d < d := Nat.mod_lt _ hd0
 have hrl := zt (n := val A % d) (k := 1) (by rw [Nat.pow_one]; omega)
 refine cR ?_;refine oV ?_;refine vj trivial rfl underlying46 rfl (hr) ?_;refine oV ?_;refine nT ?_;refine cC rfl (fun h1 => ?_) (fun h1 => ?_)
 ·
  have f1 := h1;try simp only [bl] at f1
  refine sR ?_;iterate 5 refine oV ?_
  refine nF ?_;refine ret3 rfl rfl rfl rfl ?_
  have h0 : val A % d = 0 := jh.1 (by omega)
  refine leaf (hx1.trans hx2 (Nat.le_refl _)) (List.nil_sublist _) ⟨u1,?_,hq⟩; rw [h0]; rfl
 have f1 := h1;try simp only [bl] at f1
 have h0 : val A % d ≠ 0 := fun e => f1 (by rw [e,yh]; rfl)
 have hdg : dg (natW (val A % d)) 0 = val A % d := by rw [qbw h0]; show (val A % d) % 4294967296 = _; exact Nat.mod_eq_of_lt (by omega)
 refine cK (tC (cS ?_));refine jn (by kernel_rfl) (by kernel_rfl) (fun _ h => h.drawn) ?_;iterate 2 refine oV ?_
 refine y4 trivial rfl underlying46 sizeOf83 rfl (hr) rfl (by omega) ?_;refine q8 trivial rfl isAgg83 rfl (hr.cellI (k := 0) rfl (by omega)) ?_;iterate 4 refine oV ?_
 refine nE ?_;refine ret3 rfl rfl rfl rfl ?_;refine leaf (hx1.trans hx2 (Nat.le_refl _)) (List.nil_sublist _) ⟨u1,?_,hq⟩; rw [hdg]; rfl
theorem qoq {n : Nat} (h : n ≠ 0) : dg (natW n) 0 % 2 = n % 2 := by
 rw [qbw h]; show (n % 4294967296) % 2 = n % 2; omega
structure qde (n x k : Nat) : Prop where
 eq : n = 2 ^ k * x
 odd : x % 2 = 1
theorem qek (va : Value) (n : Nat) {I : Hp} (ha : Ws I va (natW n)) (hs : (natW n).length ≤ 35184372088400) (h0 : 0 < n) : Fun prog 99 [va] I [] (fun v I' _ => ∃ u x k,v = .tuple #[u,.int .i64 (k : Nat)] ∧ Ws I' u (natW x) ∧ qde n x k) := by
 intro w hw
 refine q9 _ func99 rfl ntmps99 rfl ?_ hw;refine sR ?_;iterate 2 refine oV ?_
 refine nS ?_;refine oV ?_;refine oN (tC (cS (cB ?_)));refine qu (ι := Nat × Nat × Value × Hp) [] .nil (fun x => x.1) (fun x E0 => (0,x.2.2.1) :: (4,.int .i64 (x.2.1 : Nat)) :: E0) (fun x => St w [] x.2.2.2 []) (fun x => 0 < x.1 ∧ n = 2 ^ x.2.1 * x.1 ∧ Ws x.2.2.2 x.2.2.1 (natW x.1) ∧ (natW x.1).length ≤ 35184372088400 ∧ Ext w.heap.size I x.2.2.2) ((n,0,va,I)) (sC rfl (sC rfl sN)) (fun _ h => h) (⟨h0,by simp,ha,hs,Ext.refl _ _⟩) ?_;rintro ⟨m,k,u,I1⟩ ⟨hm0,he,hu,hl,hx1⟩
 try dsimp only
 simp only at hm0 he hu hl hx1; have hne : (natW m).length ≠ 0 := fun e => by have := jh.1 e; omega
 refine cS (sR ?_);refine oV ?_;refine vj trivial rfl underlying46 rfl (hu) ?_;refine oV ?_;refine' oY (fun hb8 => ?_) ?_;rotate_left
 ·
  have fb8 := hb8
  try simp only [bl] at fb8
  refine gV hb8 ?_;refine y4 (wS rfl rfl hb8) rfl underlying46 sizeOf83 rfl (hu) rfl (by omega) ?_;refine q8 (wS rfl rfl hb8) rfl isAgg83 rfl (hu.cellI (k := 0) rfl (by omega)) ?_;refine j6 (wS rfl rfl hb8) rfl rfl rfl (by omega) ?_;refine gV hb8 ?_;refine oN ?_;exact qa rfl
 refine nT ?_;refine cC rfl (fun h1 => ?_) (fun h1 => ?_)
 ·
  have f1 := h1;try simp only [bl] at f1
  have hev := qoq (n := m) (by omega)
  have hk64 : k < 32 * (natW n).length := by
    have h1 := y0 (j7 n)
    rw [qb,qce] at h1
    have h2 : 2 ^ k ≤ n := by rw [he]; exact Nat.le_mul_of_pos_right _ hm0
    exact (Nat.pow_lt_pow_iff_right (by decide)).1 (Nat.lt_of_le_of_lt h2 h1)
  have hmm : m % 2 = 0 := by omega
  refine cK (tC (cB (sR ?_)));refine oV ?_;refine oI call56 rfl (qop _ _ 2 hu hl (by decide) (by decide)) ?_;rintro _ I2 hx2 ⟨u2,rfl,hs2⟩;iterate 5 refine oV ?_
  refine nR ?_;refine oV ?_
  (refine qf trivial rfl rfl rfl ?_ ?_; (omega))
  refine oV ?_;refine oN (qe ?_)
  rw [qb] at hs2
  exact qj (m / 2,k + 1,u2,I2) (sC rfl (sC rfl sN)) (fun _ h => h) (by show m / 2 < m; omega) ⟨by show 0 < m / 2; omega,by show n = 2 ^ (k + 1) * (m / 2); rw [he,Nat.pow_succ,Nat.mul_assoc]; congr 1; omega,hs2,Nat.le_trans (y8 (Nat.div_le_self _ _)) hl,hx1.trans hx2 (Nat.le_refl _)⟩
 have f1 := h1;try simp only [bl] at f1
 refine qq (qc (qc (qp rfl (tC (sR ?_)))));iterate 4 refine oV ?_
 refine nE ?_;refine ret2 rfl rfl rfl ?_
 have hev := qoq (n := m) (by omega)
 exact leaf hx1 (List.nil_sublist _) ⟨u,m,k,rfl,hu,he,by omega⟩
theorem qde.pos {n x k : Nat} (h : qde n x k) : 0 < x := by have := h.odd; omega
theorem qde.le {n x k : Nat} (h : qde n x k) : x ≤ n := by rw [h.eq]; exact Nat.le_mul_of_pos_left _ (Nat.pow_pos (by decide))
theorem qde.pow_lt {n x k L : Nat} (h : qde n x k) (hL : (natW n).length ≤ L) : k < 32 * L := by
 have h1 := y0 (j7 n)
 rw [qb,qce] at h1
 have h2 : 2 ^ k ≤ n := by rw [h.eq]; exact Nat.le_mul_of_pos_right _ h.pos
 have h3 := (Nat.pow_lt_pow_iff_right (by decide)).1 (Nat.lt_of_le_of_lt h2 h1)
 omega
theorem qxc (va vb : Value) (A B : List Nat) {I : Hp} (ha : Ws I va A) (hb : Ws I vb B) (hs : A.length ≤ 3000) (hs2 : B.length ≤ 3000) : Fun prog 71 [va,vb] I [] (fun v I' _ => Ws I' v (natW (Nat.gcd (val A) (val B)))) := by
 have hal : (natW (val A)).length ≤ 3000 := Nat.le_trans (qad ha.wds) hs
 have hbl : (natW (val B)).length ≤ 3000 := Nat.le_trans (qad hb.wds) hs2
 intro w hw
 refine qv _ func71 rfl ntmps71 rfl ?_ hw;refine sR ?_;refine oV ?_;refine nS ?_;refine oV ?_;refine oI call55 rfl (zy _ _ ha (by omega)) ?_;rintro u1 I1 hx1 hs1;refine oV ?_;refine nS ?_;refine oV ?_;refine oI call55 rfl (zy _ _ (hb.le hx1.le) (by omega)) ?_;rintro u2 I2 hx2 hs2';refine oV ?_;refine nU ?_;refine oV ?_;refine vj trivial rfl underlying46 rfl (hs1.le hx2.le) ?_;refine oV ?_;refine nT ?_;refine cC rfl (fun h1 => ?_) (fun h1 => ?_)
 ·
  have f1 := h1;try simp only [bl] at f1
  refine sR ?_;iterate 2 refine oV ?_
  refine nF ?_;refine ret1 rfl rfl ?_
  have h0 : val A = 0 := jh.1 (by omega)
  refine leaf (hx1.trans hx2 (Nat.le_refl _)) (List.nil_sublist _) ?_; rw [h0,Nat.gcd_zero_left]; exact hs2'
 have f1 := h1;try simp only [bl] at f1
 refine cK (tC (cS (sR ?_)));refine oV ?_;refine vj trivial rfl underlying46 rfl (hs2') ?_;refine oV ?_;refine nT ?_;refine cC rfl (fun h2 => ?_) (fun h2 => ?_)
 ·
  have f2 := h2;try simp only [bl] at f2
  refine sR ?_;iterate 2 refine oV ?_
  refine nF ?_;refine ret1 rfl rfl ?_
  have h0 : val B = 0 := jh.1 (by omega)
  refine leaf (hx1.trans hx2 (Nat.le_refl _)) (List.nil_sublist _) ?_; rw [h0,Nat.gcd_zero_right]; exact hs1.le hx2.le
 have f2 := h2;try simp only [bl] at f2
 have hA0 : 0 < val A := Nat.pos_of_ne_zero fun e => f1 (by rw [e,yh]; rfl)
 have hB0 : 0 < val B := Nat.pos_of_ne_zero fun e => f2 (by rw [e,yh]; rfl)
 refine kS ?_;refine oV ?_;refine oI call99 rfl (qek _ _ (hs1.le hx2.le) (by omega) hA0) ?_;rintro _ I3 hx3 ⟨u3,x,n,rfl,hs3,ho3⟩;iterate 5 refine oV ?_
 refine oN (tC (cS ?_))
 have hn := ho3.pow_lt hal
 refine cR ?_;refine oV ?_;refine oI call99 rfl (qek _ _ (hs2'.le hx3.le) (by omega) hB0) ?_;rintro _ I4 hx4 ⟨u4,y,k,rfl,hs4,ho4⟩;iterate 5 refine oV ?_
 refine oN (tC (cS (cB ?_)));refine qu (ι := Nat × Nat × Value × Value × Hp) [7,8] (.cons rfl (.cons rfl .nil)) (fun t => t.1 + t.2.1) (fun t E0 => (5,t.2.2.1) :: (6,t.2.2.2.1) :: E0) (fun t => St w [] t.2.2.2.2 []) (fun t => t.1 % 2 = 1 ∧ t.2.1 % 2 = 1 ∧ Nat.gcd t.1 t.2.1 = Nat.gcd x y ∧ Ws t.2.2.2.2 t.2.2.1 (natW t.1) ∧ Ws t.2.2.2.2 t.2.2.2.1 (natW t.2.1) ∧ (natW t.1).length ≤ 3000 ∧ (natW t.2.1).length ≤ 3000 ∧ Ext w.heap.size I t.2.2.2.2) ((x,y,u3,u4,I4)) (sC rfl (sC rfl (sC rfl (sC rfl sN)))) (fun _ h => h) (⟨ho3.odd,ho4.odd,rfl,hs3.le hx4.le,hs4,Nat.le_trans (y8 ho3.le) hal,Nat.le_trans (y8 ho4.le) hbl,hx1.trans (hx2.trans (hx3.trans hx4 (Nat.le_refl _)) (Nat.le_refl _)) (Nat.le_refl _)⟩) ?_;rintro ⟨a,b,ua,ub,I5⟩ ⟨hao,hbo,hg,hua,hub,hla,hlb,hx5⟩
 try dsimp only
 simp only at hao hbo hg hua hub hla hlb hx5
 refine cS (sR ?_);iterate 2 refine oV ?_
 refine oQ call100 rfl (qdc _ _ _ _ hua hub (by omega) (by omega)) ?_;refine oV ?_;refine nT ?_;refine cC rfl (fun h3 => ?_) (fun h3 => ?_)
 ·
  have f3 := h3;try simp only [bl] at f3
  rw [qb,qb] at f3
  have hab : a ≠ b := fun e => f3 (by rw [e]; exact qck _)
  refine cK (tC (cB ?_));refine jk (ι := Nat × Nat × Value × Value) [7,8] (.cons rfl (.cons rfl .nil)) (fun t E0 => (5,t.2.2.1) :: (6,t.2.2.2) :: E0) (fun t => St w [] I5 []) (fun t => t.1 % 2 = 1 ∧ t.2.1 % 2 = 1 ∧ Nat.gcd t.1 t.2.1 = Nat.gcd x y ∧ Ws I5 t.2.2.1 (natW t.1) ∧ Ws I5 t.2.2.2 (natW t.2.1) ∧ (natW t.1).length ≤ 3000 ∧ (natW t.2.1).length ≤ 3000 ∧ t.2.1 < t.1 ∧ t.1 + t.2.1 = a + b) ?_ ?_
  ·
   refine sR ?_;iterate 2 refine oV ?_
   refine oQ call100 rfl (qdc _ _ _ _ hua hub (by omega) (by omega)) ?_;refine oV ?_;refine nT ?_;refine cC rfl (fun h4 => ?_) (fun h4 => ?_)
   ·
    have f4 := h4;try simp only [bl] at f4
    rw [qb,qb] at f4
    have hlt : a < b := by unfold cmpZ at f4; split at f4 <;> (try split at f4) <;> omega
    refine sR ?_;iterate 2 refine oV ?_
    refine nS ?_;iterate 2 refine oV ?_
    refine nR ?_;iterate 2 refine oV ?_
    refine oN ?_
    (exact meet (b,a,ub,ua) (sC rfl (sC rfl (sC rfl (sC rfl sN)))) (fun _ h => h) ⟨hbo,hao,by rw [Nat.gcd_comm]; exact hg,hub,hua,hlb,hla,hlt,by show b + a = a + b; omega⟩)
   have f4 := h4;try simp only [bl] at f4
   rw [qb,qb] at f4
   have hlt : ¬ a < b := fun h => by rw [qcj (by omega)] at f4; omega
   refine cK ?_
   (exact meet (a,b,ua,ub) (sC rfl (sC rfl (sC rfl (sC rfl sN)))) (fun _ h => h) ⟨hao,hbo,hg,hua,hub,hla,hlb,by show b < a; omega,rfl⟩)
  rintro ⟨c,d,uc,ud⟩ ⟨hco,hdo,hg2,huc,hud,hlc,hld,hdc,hsum⟩
  try dsimp only
  refine cS ?_
  simp only at hco hdo hg2 huc hud hlc hld hdc hsum
  refine cR ?_;iterate 2 refine oV ?_
  refine oI call101 rfl (qfx _ _ _ _ huc hud (by omega) (by omega) (by rw [qb,qb]; omega)) ?_;rintro _ I6 hx6 ⟨u6,rfl,hs6⟩;iterate 4 refine oV ?_
  refine nT ?_
  rw [qb,qb] at hs6
  have hl6 : (natW (c - d)).length ≤ 3000 := Nat.le_trans (y8 (Nat.sub_le _ _)) hlc
  refine cR ?_;refine oV ?_;refine oI call99 rfl (qek _ _ hs6 (by omega) (by omega)) ?_;rintro _ I7 hx7 ⟨u7,z,p,rfl,hs7,ho7⟩;iterate 4 refine oV ?_
  refine oN (qe ?_);exact qj (z,d,u7,ud,I7) (sC rfl (sC rfl (sC rfl (sC rfl sN)))) (fun _ h => h) (by show z + d < a + b; have := ho7.le; omega) ⟨ho7.odd,hdo,by show Nat.gcd z d = _; rw [qmv hdo (by omega) ho7.eq]; exact hg2,hs7,hud.le (hx6.le.trans hx7.le),Nat.le_trans (y8 ho7.le) hl6,hld,hx5.trans (hx6.trans hx7 (Nat.le_refl _)) (Nat.le_refl _)⟩
 have f3 := h3;try simp only [bl] at f3
 rw [qb,qb] at f3
 have hab : a = b := by have := qfo f3; omega
 refine qq (qc (qc (qp rfl (tC (sR ?_)))));iterate 3 refine oV ?_
 refine qgv trivial rfl rfl rfl ?_
 rw [show min (n : Int) (k : Int) = ((min n k : Nat) : Int) by omega]
 refine oI call102 rfl (qw5 _ _ (min n k) hua (by omega) (by omega)) ?_;rintro u8 I8 hx8 hs8;refine oV ?_;refine nE ?_;refine ret1 rfl rfl ?_;refine leaf (hx5.trans hx8 (Nat.le_refl _)) (List.nil_sublist _) ?_
 rw [qb] at hs8
 rw [ho3.eq,ho4.eq,quj ho3.odd ho4.odd,← hg,← hab,Nat.gcd_self]
 exact hs8
theorem qxd (va vb : Value) (A B : List Nat) {I : Hp} (ha : Ws I va A) (hb : Ws I vb B) (hs : A.length ≤ 3000) (hs2 : B.length ≤ 3000) : Fun prog 46 [va,vb] I [] (fun v I' _ => ∃ u1 u2,v = .tuple #[u1,u2,.bool (decide (val B ≠ 0))] ∧ (val B ≠ 0 → Ws I' u1 (natW (val A / Nat.gcd (val A) (val B))) ∧ Ws I' u2 (natW (val B / Nat.gcd (val A) (val B))))) := by
 have hbl : (natW (val B)).length ≤ 3000 := Nat.le_trans (qad hb.wds) hs2
 intro w hw
 refine qv _ func46 rfl ntmps46 rfl ?_ hw;refine sR ?_;iterate 3 refine oV ?_
 refine nS ?_;refine oV ?_;refine oI call55 rfl (zy _ _ hb (by omega)) ?_;rintro u1 I1 hx1 hs1;refine oV ?_;refine nU ?_;refine oV ?_;refine vj trivial rfl underlying46 rfl (hs1) ?_;refine oV ?_;refine nT ?_;refine cC rfl (fun h1 => ?_) (fun h1 => ?_)
 ·
  have f1 := h1;try simp only [bl] at f1
  refine sR ?_;iterate 3 refine oV ?_
  refine nF ?_;refine ret3 rfl rfl rfl rfl ?_
  have h0 : val B = 0 := jh.1 (by omega)
  refine leaf hx1 (List.nil_sublist _) ⟨.slice none 0 0,.slice none 0 0,?_,fun h => absurd h0 h⟩; rw [decide_eq_false (not_not_intro h0)]
 have f1 := h1;try simp only [bl] at f1
 have h0 : 0 < val B := Nat.pos_of_ne_zero fun e => f1 (by rw [e,yh]; rfl)
 have hg : 0 < Nat.gcd (val A) (val B) := Nat.gcd_pos_of_pos_right _ h0
 have hgl : (natW (Nat.gcd (val A) (val B))).length ≤ 3000 := Nat.le_trans (y8 (Nat.gcd_le_right _ h0)) hbl
 refine kS ?_;iterate 2 refine oV ?_
 refine oI call71 rfl (qxc _ _ _ _ (ha.le hx1.le) hs1 hs (by omega)) ?_;rintro u2 I2 hx2 hs2';refine oV ?_;refine oN (tC (cS ?_))
 rw [qb] at hs2'
 refine cR ?_;iterate 2 refine oV ?_
 refine oI call72 rfl (qfy _ _ _ _ (ha.le (hx1.le.trans hx2.le)) hs2' (by omega) (by omega) (by rw [qb]; exact hg)) ?_;rintro _ I3 hx3 ⟨u3,u4,rfl,hq3,hr3⟩;iterate 7 refine oV ?_
 refine nS ?_;iterate 2 refine oV ?_
 refine oI call72 rfl (qfy _ _ _ _ (hs1.le (hx2.le.trans hx3.le)) (hs2'.le hx3.le) (by omega) (by omega) (by rw [qb]; exact hg)) ?_;rintro _ I4 hx4 ⟨u5,u6,rfl,hq5,hr5⟩;iterate 5 refine oV ?_
 refine nS ?_;iterate 5 refine oV ?_
 refine nE ?_;refine ret3 rfl rfl rfl rfl ?_
 rw [qb] at hq3
 rw [qb,qb] at hq5
 refine leaf (hx1.trans (hx2.trans (hx3.trans hx4 (Nat.le_refl _)) (Nat.le_refl _)) (Nat.le_refl _)) (List.nil_sublist _) ⟨u3,u5,?_,fun _ => ⟨hq3.le hx4.le,hq5⟩⟩; rw [decide_eq_true (by omega)]; rfl
theorem qxe (a b : List Int) : zb a ++ zb b = zb (a ++ b) := by
 unfold zb; rw [List.map_append]; apply ByteArray.ext; simp
theorem qxf : decS 0 = ⟨#[48]⟩ := by
 unfold decS decL; rw [digs]; rfl
theorem qhh (va : Value) (A : List Nat) {I : Hp} (ha : Ws I va A) (hs : A.length ≤ 35184372088400) : Fun prog 40 [va] I [] (fun v _ _ => v = .string (decS (val A))) := by
 have hdl := qda ha.wds hs
 have hal : (natW (val A)).length ≤ 35184372088400 := Nat.le_trans (qad ha.wds) hs
 intro w hw
 refine q9 _ func40 rfl ntmps40 rfl ?_ hw;refine sR ?_;refine oV ?_;refine nS ?_;refine oV ?_;refine oI call55 rfl (zy _ _ ha (by omega)) ?_;rintro u1 I1 hx1 hs1;refine oV ?_;refine nU ?_;refine oV ?_;refine vj trivial rfl underlying46 rfl (hs1) ?_;refine oV ?_;refine nT ?_;refine cC rfl (fun h1 => ?_) (fun h1 => ?_)
 ·
  have f1 := h1;try simp only [bl] at f1
  refine sR ?_;refine oV ?_;refine nF ?_;refine ret1 rfl rfl ?_
  have h0 : val A = 0 := jh.1 (by omega)
  refine leaf hx1 (List.nil_sublist _) (congrArg Value.string ?_); rw [h0,qxf]
 have f1 := h1;try simp only [bl] at f1
 have h0 : 0 < val A := Nat.pos_of_ne_zero fun e => f1 (by rw [e,yh]; rfl)
 refine kS ?_;refine oV ?_;refine oN (tC (cS (cB ?_)));refine qu (ι := Nat × List Nat × Value × Hp) [] .nil (fun x => x.1) (fun x E0 => (3,x.2.2.1) :: (4,.string (zb (x.2.1.reverse.map Int.ofNat))) :: E0) (fun x => St w [] x.2.2.2 []) (fun x => Ws x.2.2.2 x.2.2.1 (natW x.1) ∧ (natW x.1).length ≤ 35184372088400 ∧ x.2.1 ++ qan x.1 x.2.1 = digs (val A) ∧ (x.1 = 0 → x.2.1 ≠ []) ∧ Ext w.heap.size I x.2.2.2) ((val A,[],u1,I1)) (sC rfl (sC rfl sN)) (fun _ h => h) (⟨hs1,hal,by simp [qan],fun h => absurd h (by show val A ≠ 0; omega),hx1⟩) ?_;rintro ⟨m,L,u,I2⟩ ⟨hu,hl,hd,hne,hx2⟩
 try dsimp only
 simp only at hu hl hd hne hx2; have hol : L.length ≤ (digs (val A)).length := by rw [← hd,List.length_append]; omega
 refine cS (sR ?_);refine oV ?_;refine vj trivial rfl underlying46 rfl (hu) ?_;refine oV ?_;refine nT ?_;refine cC rfl (fun h2 => ?_) (fun h2 => ?_)
 ·
  have f2 := h2;try simp only [bl] at f2
  have hm0 : 0 < m := Nat.pos_of_ne_zero fun e => by rw [e,yh] at f2; simp at f2
  rw [qn3 L (.inl hm0)] at hd
  have hsz : (zb (L.reverse.map Int.ofNat)).size = L.length := by rw [qis]; simp
  refine cK (tC (cB (sR ?_)));refine oV ?_;refine oI call56 rfl (qop _ _ 10 hu hl (by decide) (by decide)) ?_;rintro _ I3 hx3 ⟨u3,rfl,hs3⟩;iterate 7 refine oV ?_
  refine nS ?_;refine oV ?_;refine qbf trivial rfl rfl rfl (by rw [IntWalk.u32_in _ (by omega)]) ?_;refine ya trivial rfl underlying83 underlying5 rfl (by rw [IntWalk.u8_in _ (by omega)]) ?_;refine oB underlying117 sizeOf5 zeroValue5 fun b25 => ?_;refine qtw (ns := [(48 : Int) + ((val (natW m) % 10 : Nat) : Int)]) trivial rfl underlying117 underlying5 underlying9 rfl (by repeat constructor) rfl ?_;refine oV ?_;refine qtk trivial rfl rfl rfl (by rw [qis,hsz]; simp only [List.length_cons,List.length_nil]; omega) ?_;refine oV ?_;refine nR ?_;iterate 2 refine oV ?_
  refine oN (qe ?_)
  rw [qb] at hs3
  have e1 : zb [(48 : Int) + ((val (natW m) % 10 : Nat) : Int)] ++ zb (L.reverse.map Int.ofNat) = zb ((L ++ [48 + m % 10]).reverse.map Int.ofNat) := by
    rw [qxe,qb,List.reverse_append]; rfl
  rw [e1]
  exact qj (m / 10,L ++ [48 + m % 10],u3,I3) (sC rfl (sC rfl sN)) (fun _ h => h.drop (List.nil_sublist _)) (by show m / 10 < m; omega) ⟨hs3,Nat.le_trans (y8 (Nat.div_le_self _ _)) hl,by show (L ++ [48 + m % 10]) ++ qan (m / 10) (L ++ [48 + m % 10]) = _; rw [← hd]; simp,fun _ => by simp,hx2.trans hx3 (Nat.le_refl _)⟩
 have f2 := h2;try simp only [bl] at f2
 have hm0 : m = 0 := jh.1 (by omega)
 refine qq (qc (qc (qp rfl (tC (sR ?_)))));iterate 2 refine oV ?_
 refine nE ?_;refine ret1 rfl rfl ?_;refine leaf hx2 (List.nil_sublist _) (congrArg Value.string ?_)
 unfold qan at hd
 rw [if_pos ⟨hm0,hne hm0⟩,List.append_nil] at hd
 unfold decS decL
 rw [← hd]
theorem qhi (neg : Bool) (va : Value) (A : List Nat) {I : Hp} (ha : Ws I va A) (hs : A.length ≤ 100000) : Fun prog 123 [.agg #[.bool neg,va]] I [] (fun v I' _ => IntV I' v (if neg then -(val A : Int) else val A)) := by
 intro w hw
 refine q9 _ func123 rfl ntmps123 rfl ?_ hw;refine sR ?_;refine qo trivial rfl rfl rfl (fun b1 => ?_);refine qh trivial rfl zeroValue81 rfl (fun b2 => ?_);refine nS ?_;refine oF 1 underlying81 sizeOf46 ?_;refine oL isAgg46 ?_;refine oI call55 rfl (zy _ _ ha (by omega)) ?_;rintro u1 I1 hx1 hs1;refine oV ?_;refine nS ?_;refine oF 0 underlying81 sizeOf4 ?_;refine oL isAgg4 ?_;refine' oY (fun hb9 => ?_) ?_;rotate_left
 ·
  have fb9 := hb9
  try simp only [bl] at fb9
  refine gV hb9 ?_;refine vj (wS rfl rfl hb9) rfl underlying46 rfl (hs1) ?_;refine gV hb9 ?_;refine oN ?_;exact qa rfl
 refine oV ?_;refine vg trivial rfl (zk) rfl (.cons rfl rfl rfl (by repeat constructor) (.cons rfl (by exact (Ws.cells1 (by assumption)).1) (by rfl) (by repeat constructor) .nil)) ?_;refine oS sizeOf81 ?_;refine nE ?_;refine retR rfl (.agg isAgg81 sizeOf81 rfl (by repeat constructor) rfl .nil) ?_;refine leaf hx1 (List.nil_sublist _) ⟨u1,?_,by rw [qnu]; exact hs1⟩
 rw [← qnt]
 have e : decide (((natW (val A)).length : Int) > 0) = decide (0 < val A) := by
   rw [decide_eq_decide]
   constructor
   · intro h; exact Nat.pos_of_ne_zero fun e => by rw [e,yh] at h; simp at h
   · intro h; have := (qfr (n := val A) (by omega)).1; omega
 rw [e]; rfl
theorem qor (n : Int) {I : Hp} (hn : -1000000 ≤ n ∧ n ≤ 1000000) : Fun prog 32 [.int .i64 n] I [] (fun v I' _ => IntV I' v n) := by
 intro w hw
 refine q9 _ func32 rfl ntmps32 rfl ?_ hw;refine sR ?_;refine qh trivial rfl zeroValue81 rfl (fun b2 => ?_);refine nU ?_;iterate 2 refine oV ?_
 refine nT ?_;refine cC rfl (fun h1 => ?_) (fun h1 => ?_)
 ·
  have f1 := h1;try simp only [bl] at f1
  refine sR ?_;refine oV ?_;refine ya trivial rfl underlying3 underlying108 rfl (by rw [IntWalk.u64_in _ (by omega)]) ?_
  rw [show n = ((n.natAbs : Nat) : Int) by omega]
  refine oI call47 rfl (qom n.natAbs (by omega)) ?_;rintro u1 I1 hx1 hs1;refine vg trivial rfl (zk) rfl (.cons rfl (by exact (Ws.cells1 (by assumption)).1) (by rfl) (by repeat constructor) .nil) ?_;refine oS sizeOf81 ?_;refine nF ?_;refine retR rfl (.agg isAgg81 sizeOf81 rfl (by repeat constructor) rfl .nil) ?_;refine leaf hx1 (List.nil_sublist _) ⟨u1,?_,hs1⟩; rw [decide_eq_false (by omega)]; rfl
 have f1 := h1;try simp only [bl] at f1
 refine kS ?_;refine oV ?_;refine qav trivial rfl underlying3 underlying108 rfl ?_;refine oV ?_;refine oV ?_;refine oN (tC (cS ?_))
 rw [show IntKind.u64.wrap (0 - IntKind.u64.wrap n) = ((n.natAbs : Nat) : Int) by simp only [IntKind.wrap_u64]; omega]
 refine cR ?_;refine oV ?_;refine oI call47 rfl (qom n.natAbs (by omega)) ?_;rintro u2 I2 hx2 hs2;refine vg trivial rfl (zk) rfl (.cons rfl rfl rfl (by repeat constructor) (.cons rfl (by exact (Ws.cells1 (by assumption)).1) (by rfl) (by repeat constructor) .nil)) ?_;refine oS sizeOf81 ?_;refine nE ?_;refine retR rfl (.agg isAgg81 sizeOf81 rfl (by repeat constructor) rfl .nil) ?_;refine leaf hx2 (List.nil_sublist _) ⟨u2,?_,hs2⟩; rw [decide_eq_true (by omega)]; rfl
theorem qxg (va vb : Value) (x y : Int) {I : Hp} (ha : Ws I va (natW x.natAbs)) (hb : Ws I vb (natW y.natAbs)) (hs : (natW x.natAbs).length ≤ 20000) (hs2 : (natW y.natAbs).length ≤ 20000) : Fun prog 125 [.agg #[.bool (decide (x < 0)),va],.agg #[.bool (decide (y < 0)),vb]] I [] (fun v I' _ => IntV I' v (x * y)) := by
 intro w hw
 refine qv _ func125 rfl ntmps125 rfl ?_ hw;refine sR ?_;refine qo trivial rfl rfl rfl (fun b2 => ?_);refine qo trivial rfl rfl rfl (fun b3 => ?_);refine qh trivial rfl zeroValue81 rfl (fun b4 => ?_);refine oN (tC (cS ?_));refine yb (m := 13) [.box b2 _,.box b3 _] (by repeat constructor) (by kernel_rfl) rfl ?_;refine qT (i := 0) (qB 13 1) (Hp.Le.refl _) rfl rfl (oF 0 underlying81 sizeOf4 qF) ?_;refine qT (i := 1) (qB 13 3) (Hp.Le.refl _) rfl rfl (oL isAgg4 qF) ?_;refine qT (i := 2) (qB 13 7) (Hp.Le.refl _) rfl rfl (oF 0 underlying81 sizeOf4 qF) ?_;refine qT (i := 3) (qB 13 15) (Hp.Le.refl _) rfl rfl (oL isAgg4 qF) ?_;refine qT (i := 4) (qB 13 31) (Hp.Le.refl _) rfl rfl (qfn trivial rfl rfl rfl underlying4 qF) ?_;refine qT (i := 5) (qB 13 63) (Hp.Le.refl _) rfl rfl (oF 1 underlying81 sizeOf46 qF) ?_;refine qT (i := 6) (qB 13 127) (Hp.Le.refl _) rfl rfl (oL isAgg46 qF) ?_;refine qT (i := 7) (qB 13 255) (Hp.Le.refl _) rfl rfl (oF 1 underlying81 sizeOf46 qF) ?_;refine qT (i := 8) (qB 13 511) (Hp.Le.refl _) rfl rfl (oL isAgg46 qF) ?_;refine qO (i := 9) (qB 13 1023) rfl ?_;refine oI call92 rfl (qhg _ _ _ _ ha hb (by omega) (by omega)) ?_;rintro u1 I1 hx1 hs1;refine qM (hx1.le) ?_;refine' qT (i := 10) (qB 13 2047) (hx1.le) rfl rfl ?hh0 ?kk0
 case hh0 =>
  rw [qb,qb] at hs1
  have hl : (natW (x.natAbs * y.natAbs)).length ≤ 100000 := Nat.le_trans (yq _ _) (by omega)
  refine vg trivial rfl (zk) rfl (.cons rfl rfl rfl (by repeat constructor) (.cons rfl (by exact (Ws.cells1 (by assumption)).1) (by rfl) (by repeat constructor) .nil)) ?_;exact qF
 refine qO (i := 11) (qB 13 4095) rfl ?_;refine oI call123 rfl (qhi (decide (x < 0) != decide (y < 0)) _ (natW (x.natAbs * y.natAbs)) (by (rw [qb,qb] at hs1; exact hs1)) (Nat.le_trans (yq _ _) (by omega))) ?_;rintro _ I2 hx2 ⟨u2,rfl,hs2'⟩;refine qM ((hx1.le).trans hx2.le) ?_;refine qO (i := 12) (qB 13 8191) rfl ?_;refine oS sizeOf81 ?_;refine qM ((hx1.le).trans hx2.le) ?_;refine qn (by kernel_rfl) ?_;refine tC (cT ?_);refine retR rfl (.agg isAgg81 sizeOf81 rfl (by repeat constructor) rfl .nil) ?_;refine leaf (hx1.trans hx2 (Nat.le_refl _)) (List.nil_sublist _) ⟨u2,?_,?_⟩
 · rw [qb,sign_mul]; rfl
 · rw [qb,sign_mul] at hs2'; exact hs2'
theorem qxh {x y : Int} (h : decide (x < 0) = decide (y < 0)) : (if decide (x < 0) then -((x.natAbs + y.natAbs : Nat) : Int) else ((x.natAbs + y.natAbs : Nat) : Int)) = x + y := by
 by_cases h1 : x < 0 <;> by_cases h2 : y < 0 <;> simp [h1,h2] at h ⊢ <;> omega
theorem qos {x y : Int} (h : decide (x < 0) ≠ decide (y < 0)) (hle : y.natAbs ≤ x.natAbs) : (if decide (x < 0) then -((x.natAbs - y.natAbs : Nat) : Int) else ((x.natAbs - y.natAbs : Nat) : Int)) = x + y := by
 by_cases h1 : x < 0 <;> by_cases h2 : y < 0 <;> simp [h1,h2] at h ⊢ <;> omega
theorem qxi (va vb : Value) (x y : Int) {I : Hp} (ha : Ws I va (natW x.natAbs)) (hb : Ws I vb (natW y.natAbs)) (hs : (natW x.natAbs).length ≤ 20000) (hs2 : (natW y.natAbs).length ≤ 20000) : Fun prog 90 [.agg #[.bool (decide (x < 0)),va],.agg #[.bool (decide (y < 0)),vb]] I [] (fun v I' _ => IntV I' v (x + y)) := by
 intro w hw
 refine qv _ func90 rfl ntmps90 rfl ?_ hw;refine sR ?_;refine qo trivial rfl rfl rfl (fun b2 => ?_);refine qo trivial rfl rfl rfl (fun b3 => ?_);refine qh trivial rfl zeroValue81 rfl (fun b4 => ?_);refine nU ?_;refine oF 0 underlying81 sizeOf4 ?_;refine oL isAgg4 ?_;refine oF 0 underlying81 sizeOf4 ?_;refine oL isAgg4 ?_;refine qje trivial rfl rfl rfl underlying4 ?_;refine nT ?_;refine cC rfl (fun h1 => ?_) (fun h1 => ?_)
 ·
  have f1 := h1;try simp only [bl] at f1
  refine cS ?_;refine yb (m := 10) [.box b2 _,.box b3 _] (by repeat constructor) (by kernel_rfl) rfl ?_;refine qT (i := 0) (qB 10 1) (Hp.Le.refl _) rfl rfl (oF 0 underlying81 sizeOf4 qF) ?_;refine qT (i := 1) (qB 10 3) (Hp.Le.refl _) rfl rfl (oL isAgg4 qF) ?_;refine qT (i := 2) (qB 10 7) (Hp.Le.refl _) rfl rfl (oF 1 underlying81 sizeOf46 qF) ?_;refine qT (i := 3) (qB 10 15) (Hp.Le.refl _) rfl rfl (oL isAgg46 qF) ?_;refine qT (i := 4) (qB 10 31) (Hp.Le.refl _) rfl rfl (oF 1 underlying81 sizeOf46 qF) ?_;refine qT (i := 5) (qB 10 63) (Hp.Le.refl _) rfl rfl (oL isAgg46 qF) ?_;refine qO (i := 6) (qB 10 127) rfl ?_;refine oI call124 rfl (qjt _ _ _ _ ha hb (by omega) (by omega)) ?_;rintro u1 I1 hx1 hs1;refine qM (hx1.le) ?_;refine qT (i := 7) (qB 10 255) (hx1.le) rfl rfl (vg trivial rfl (zk) rfl (.cons rfl rfl rfl (by repeat constructor) (.cons rfl (by exact (Ws.cells1 (by assumption)).1) (by rfl) (by repeat constructor) .nil)) qF) ?_;refine qO (i := 8) (qB 10 511) rfl ?_;refine oI call123 rfl (qhi (decide (x < 0)) _ (natW (x.natAbs + y.natAbs)) (by rw [qb,qb] at hs1; exact hs1) (Nat.le_trans (qd9 _ _ 20000 hs hs2) (by decide))) ?_;rintro _ I2 hx2 ⟨u2,rfl,hs2'⟩;refine qM ((hx1.le).trans hx2.le) ?_;refine qO (i := 9) (qB 10 1023) rfl ?_;refine oS sizeOf81 ?_;refine qM ((hx1.le).trans hx2.le) ?_;refine qn (by kernel_rfl) ?_;refine tC (cT (tR ?_));refine retR rfl (.agg isAgg81 sizeOf81 rfl (by repeat constructor) rfl .nil) ?_
  have e := qxh f1
  rw [qb,e] at hs2'
  refine leaf (hx1.trans hx2 (Nat.le_refl _)) (List.nil_sublist _) ⟨u2,?_,hs2'⟩
  rw [qb,e]; rfl
 have f1 := h1;try simp only [bl] at f1
 refine cK (tC (cS (sR ?_)));refine oF 1 underlying81 sizeOf46 ?_;refine oL isAgg46 ?_;refine oF 1 underlying81 sizeOf46 ?_;refine oL isAgg46 ?_;refine oQ call100 rfl (qdc _ _ _ _ ha hb (by omega) (by omega)) ?_;refine oV ?_;refine nT ?_;refine cC rfl (fun h2 => ?_) (fun h2 => ?_)
 ·
  have f2 := h2;try simp only [bl] at f2
  rw [qb,qb] at f2
  have hle : y.natAbs ≤ x.natAbs := by unfold cmpZ at f2; split at f2 <;> (try split at f2) <;> omega
  have e := qos f1 hle
  refine sR ?_;refine oF 1 underlying81 sizeOf46 ?_;refine oL isAgg46 ?_;refine oF 1 underlying81 sizeOf46 ?_;refine oL isAgg46 ?_;refine oI call101 rfl (qfx _ _ _ _ ha hb (by omega) (by omega) (by rw [qb,qb]; exact hle)) ?_;rintro _ I3 hx3 ⟨u3,rfl,hs3⟩;iterate 5 refine oV ?_
  refine oN (tC (cS ?_))
  rw [qb,qb] at hs3
  refine cR ?_;refine oF 0 underlying81 sizeOf4 ?_;refine oL isAgg4 ?_;refine oV ?_;refine vg trivial rfl (zk) rfl (.cons rfl rfl rfl (by repeat constructor) (.cons rfl (by exact (Ws.cells1 (by assumption)).1) (by rfl) (by repeat constructor) .nil)) ?_;refine oI call123 rfl (qhi (decide (x < 0)) _ _ hs3 (Nat.le_trans (y8 (Nat.sub_le _ _)) (by omega))) ?_;rintro _ I4 hx4 ⟨u4,rfl,hs4⟩;refine oS sizeOf81 ?_;refine nF ?_;refine retR rfl (.agg isAgg81 sizeOf81 rfl (by repeat constructor) rfl .nil) ?_
  rw [qb,e] at hs4
  refine leaf (hx3.trans hx4 (Nat.le_refl _)) (List.nil_sublist _) ⟨u4,?_,hs4⟩
  rw [qb,e]; rfl
 have f2 := h2;try simp only [bl] at f2
 rw [qb,qb] at f2
 have hle : x.natAbs ≤ y.natAbs := by unfold cmpZ at f2; split at f2 <;> (try split at f2) <;> omega
 have e := qos (fun h => f1 h.symm) hle
 rw [Int.add_comm] at e
 refine kS ?_;refine oF 1 underlying81 sizeOf46 ?_;refine oL isAgg46 ?_;refine oF 1 underlying81 sizeOf46 ?_;refine oL isAgg46 ?_;refine oI call101 rfl (qfx _ _ _ _ hb ha (by omega) (by omega) (by rw [qb,qb]; exact hle)) ?_;rintro _ I5 hx5 ⟨u5,rfl,hs5⟩;iterate 5 refine oV ?_
 refine oN (tC (cS ?_))
 rw [qb,qb] at hs5
 refine cR ?_;refine oF 0 underlying81 sizeOf4 ?_;refine oL isAgg4 ?_;refine oV ?_;refine vg trivial rfl (zk) rfl (.cons rfl rfl rfl (by repeat constructor) (.cons rfl (by exact (Ws.cells1 (by assumption)).1) (by rfl) (by repeat constructor) .nil)) ?_;refine oI call123 rfl (qhi (decide (y < 0)) _ _ hs5 (Nat.le_trans (y8 (Nat.sub_le _ _)) (by omega))) ?_;rintro _ I6 hx6 ⟨u6,rfl,hs6⟩;refine oS sizeOf81 ?_;refine nE ?_;refine retR rfl (.agg isAgg81 sizeOf81 rfl (by repeat constructor) rfl .nil) ?_
 rw [qb,e] at hs6
 refine leaf (hx5.trans hx6 (Nat.le_refl _)) (List.nil_sublist _) ⟨u6,?_,hs6⟩
 rw [qb,e]; rfl
theorem qxj : natW 1 = [1] := by rw [qbw (by decide),show 1 / 4294967296 = 0 from rfl,yh]
theorem qfz (neg : Bool) (va vb : Value) (A B : List Nat) {I : Hp} (ha : Ws I va A) (hb : Ws I vb B) (hs : A.length ≤ 3000) (hs2 : B.length ≤ 3000) : Fun prog 31 [.agg #[.bool neg,va],vb] I [] (fun v I' _ => RatV I' v (lowQ neg (val A) (val B))) := by
 intro w hw
 refine qv _ func31 rfl ntmps31 rfl ?_ hw;refine sR ?_;refine qo trivial rfl rfl rfl (fun b2 => ?_);refine qh trivial rfl zeroValue48 rfl (fun b4 => ?_);refine nS ?_;refine oF 1 underlying81 sizeOf46 ?_;refine oL isAgg46 ?_;refine oV ?_;refine oI call46 rfl (qxd _ _ _ _ ha hb hs hs2) ?_;rintro _ I1 hx1 ⟨u1,u2,rfl,hs1⟩;iterate 7 refine oV ?_
 refine nU ?_;iterate 2 refine oV ?_
 refine' oZ (fun hb18 => ?_) ?_;rotate_left
 ·
  have fb18 := hb18
  try simp only [bl] at fb18
  have hB : val B ≠ 0 := by simpa using hb18
  obtain ⟨hu1,hu2⟩ := hs1 hB
  refine gV hb18 ?_;refine vj (wS rfl rfl hb18) rfl underlying46 rfl (hu1) ?_;refine gV hb18 ?_;refine oN ?_;exact qa rfl
 refine nT ?_;refine cC rfl (fun h1 => ?_) (fun h1 => ?_)
 ·
  have f1 := h1;try simp only [bl] at f1
  have h0 : val B = 0 ∨ val A = 0 := by
    rcases f1 with f1 | f1
    · exact .inl (Decidable.not_not.1 f1)
    · by_cases hB : val B = 0
      · exact .inl hB
      · exact .inr (qnv (jh.1 (by omega)) hB)
  refine sR ?_;refine oB underlying46 sizeOf83 zeroValue83 fun b23 => ?_;refine qaz [1] .here (jx (by decide) zc) (by unfold maxLen; simp) (fun I2 hx2 hs2' => ?_);refine vg trivial rfl (zd) rfl (.cons rfl (by exact (Ws.cells1 (by assumption)).1) (by rfl) (by repeat constructor) .nil) ?_;refine oS sizeOf48 ?_;refine nF ?_;refine retR rfl (.agg isAgg48 sizeOf48 rfl (by repeat constructor) rfl .nil) ?_;refine leaf (hx1.trans hx2 (Nat.le_refl _)) (List.nil_sublist _) ?_
  rw [qfs h0]; exact RatV.zero (by rw [qxj]; exact hs2')
 have f1 := h1;try simp only [bl] at f1
 have hB : val B ≠ 0 := fun e => f1.1 e
 obtain ⟨hu1,hu2⟩ := hs1 hB
 have hA : val A ≠ 0 := fun e => f1.2 (by rw [e,Nat.zero_div,yh]; rfl)
 obtain ⟨e1,e2,e3⟩ := qg7 (neg := neg) hA hB
 refine kS ?_;refine oF 0 underlying81 sizeOf4 ?_;refine oL isAgg4 ?_;iterate 2 refine oV ?_
 refine vg trivial rfl (zd) rfl (.cons rfl rfl rfl (by repeat constructor) (.cons rfl (by exact (Ws.cells1 (by assumption)).1) (by rfl) (by repeat constructor) (.cons rfl (by exact (Ws.cells1 (by assumption)).1) (by rfl) (by repeat constructor) .nil))) ?_;refine oS sizeOf48 ?_;refine nE ?_;refine retR rfl (.agg isAgg48 sizeOf48 rfl (by repeat constructor) rfl .nil) ?_;refine leaf hx1 (List.nil_sublist _) ⟨u1,u2,?_,?_,?_⟩
 · rw [e3]; rfl
 · rw [e1]; exact hu1
 · rw [e2]; exact hu2
theorem qf0 (neg : Bool) (va vb : Value) (A B : List Nat) {I : Hp} (ha : Ws I va A) (hb : Ws I vb B) (hs : A.length ≤ 3000) (hs2 : B.length ≤ 3000) : Fun prog 43 [.agg #[.bool neg,va,vb]] I [] (fun v I' _ => RatV I' v (lowQ neg (val A) (val B))) := by
 intro w hw
 refine q9 _ func43 rfl ntmps43 rfl ?_ hw;refine sR ?_;refine qo trivial rfl rfl rfl (fun b1 => ?_);refine qh trivial rfl zeroValue48 rfl (fun b2 => ?_);refine nS ?_;refine oF 0 underlying48 sizeOf4 ?_;refine oL isAgg4 ?_;refine oF 1 underlying48 sizeOf46 ?_;refine oL isAgg46 ?_;refine vg trivial rfl (zk) rfl (.cons rfl rfl rfl (by repeat constructor) (.cons rfl (by exact (Ws.cells1 (by assumption)).1) (by rfl) (by repeat constructor) .nil)) ?_;refine oF 2 underlying48 sizeOf46 ?_;refine oL isAgg46 ?_;refine oI call31 rfl (qfz neg _ _ _ _ ha hb hs hs2) ?_;rintro _ I1 hx1 ⟨u1,u2,rfl,h1,h2⟩;refine oS sizeOf48 ?_;refine nE ?_;refine retR rfl (.agg isAgg48 sizeOf48 rfl (by repeat constructor) rfl .nil) ?_;exact leaf hx1 (List.nil_sublist _) ⟨u1,u2,rfl,h1,h2⟩
theorem qcs (q : Rat) (va vb : Value) {I : Hp} (ha : Ws I va (natW q.num.natAbs)) (hb : Ws I vb (natW q.den)) (hk : Few 3000 q) : Fun prog 43 [.agg #[.bool (decide (q.num < 0)),va,vb]] I [] (fun v I' _ => RatV I' v q) := by
 have h := qf0 (decide (q.num < 0)) va vb _ _ ha hb (yj hk.num (Nat.le_refl _)) (yj hk.den (Nat.le_refl _))
 rw [qb,qb,qa3] at h
 exact h
theorem qdf (s1 s2 : Bool) (va vb vc vd : Value) (A B C D : List Nat) {I : Hp} (ha : Ws I va A) (hb : Ws I vb B) (hc : Ws I vc C) (hd : Ws I vd D) : Fun prog 14 [.agg #[.bool s1,va,vb],.agg #[.bool s2,vc,vd]] I [] (fun v _ _ => v = .bool (decide (s1 = s2) && decide (A = C) && decide (B = D))) := by
 intro w hw
 refine qv _ func14 rfl ntmps14 rfl ?_ hw;refine sR ?_;refine qo trivial rfl rfl rfl (fun b2 => ?_);refine qo trivial rfl rfl rfl (fun b3 => ?_);refine oV ?_;refine nS ?_;refine oF 0 underlying48 sizeOf4 ?_;refine oL isAgg4 ?_;refine oF 0 underlying48 sizeOf4 ?_;refine oL isAgg4 ?_;refine qje trivial rfl rfl rfl underlying4 ?_;refine' oY (fun hb10 => ?_) ?_;rotate_left
 ·
  have fb10 := hb10
  try simp only [bl] at fb10
  refine gF hb10 1 underlying48 sizeOf46 ?_;refine gL hb10 isAgg46 ?_;refine gF hb10 1 underlying48 sizeOf46 ?_;refine gL hb10 isAgg46 ?_;refine yy (wS rfl rfl hb10) rfl call33 rfl (qol _ _ _ _ ha hc) ?_;refine oN ?_;exact qa rfl
 refine' oY (fun hb17 => ?_) ?_;rotate_left
 ·
  have fb17 := hb17
  try simp only [bl] at fb17
  refine gF hb17 2 underlying48 sizeOf46 ?_;refine gL hb17 isAgg46 ?_;refine gF hb17 2 underlying48 sizeOf46 ?_;refine gL hb17 isAgg46 ?_;refine yy (wS rfl rfl hb17) rfl call33 rfl (qol _ _ _ _ hb hd) ?_;refine oN ?_;exact qa rfl
 refine oV ?_;refine nE ?_;refine ret1 rfl rfl ?_;refine qg (congrArg Value.bool ?_)
 congr 2
theorem qot (neg : Bool) (va vb : Value) (A B : List Nat) {I : Hp} (ha : Ws I va A) (hb : Ws I vb B) (hs : A.length ≤ 3000) (hs2 : B.length ≤ 3000) : Fun prog 39 [.agg #[.bool neg,va,vb]] I [] (fun v _ _ => v = .bool (qbk neg A B)) := by
 intro w hw
 refine q9 _ func39 rfl ntmps39 rfl ?_ hw;refine sR ?_;refine qo trivial rfl rfl rfl (fun b1 => ?_);refine oV ?_;refine oN (tC (cS ?_));refine yb (m := 5) [.box b1 _] (by repeat constructor) (by kernel_rfl) rfl ?_;refine qT (i := 0) (qB 5 1) (Hp.Le.refl _) rfl rfl (oA isAgg48 sizeOf48 qF) ?_;refine qT (i := 2) (qB 5 5) (Hp.Le.refl _) rfl rfl (oA isAgg48 sizeOf48 qF) ?_;refine qO (i := 1) (qB 5 7) rfl ?_;refine oI call43 rfl (qf0 neg _ _ _ _ ha hb hs hs2) ?_;rintro _ I1 hx1 ⟨u1,u2,rfl,h1,h2⟩;refine qM (hx1.le) ?_;refine qO (i := 3) (qB 5 15) rfl ?_;refine oQ call14 rfl (qdf _ neg _ _ _ _ _ _ A B h1 h2 (ha.le hx1.le) (hb.le hx1.le)) ?_;refine qM (hx1.le) ?_;refine qT (i := 4) (qB 5 31) (hx1.le) rfl rfl (oV qF) ?_;refine qn (by kernel_rfl) ?_;refine tC (cT ?_);refine ret1 rfl rfl ?_;refine leaf hx1 (List.nil_sublist _) (congrArg Value.bool ?_)
 unfold qbk
 rw [Bool.eq_iff_iff]
 simp only [Bool.and_eq_true,decide_eq_true_eq]
 constructor <;> (rintro ⟨⟨k1,k2⟩,k3⟩; exact ⟨⟨k1.symm,k2.symm⟩,k3.symm⟩)
theorem qou : val [1] = 1 := by rw [zr,qc4]
theorem qel (n : Int) {I : Hp} (hn : -1000000 ≤ n ∧ n ≤ 1000000) : Fun prog 13 [.int .i64 n] I [] (fun v I' _ => RatV I' v (mkRat n 1)) := by
 have hl : (natW n.natAbs).length ≤ 3000 := qa2 (k := 1) (by rw [Nat.pow_one]; omega) (by decide)
 intro w hw
 refine q9 _ func13 rfl ntmps13 rfl ?_ hw;refine sR ?_;refine qh trivial rfl zeroValue48 rfl (fun b2 => ?_);refine nS ?_;refine oV ?_;refine oI call32 rfl (qor n hn) ?_;rintro _ I1 hx1 ⟨u1,rfl,hs1⟩;refine oB underlying46 sizeOf83 zeroValue83 fun b5 => ?_;refine qaz [1] .here (jx (by decide) zc) (by unfold maxLen; simp) (fun I2 hx2 hs2 => ?_);refine oI call31 rfl (qfz (decide (n < 0)) _ _ _ _ (hs1.le hx2.le) hs2 hl (by simp)) ?_;rintro _ I3 hx3 ⟨u3,u4,rfl,h3,h4⟩;refine oS sizeOf48 ?_;refine nE ?_;refine retR rfl (.agg isAgg48 sizeOf48 rfl (by repeat constructor) rfl .nil) ?_
 rw [qb,qou,qbz] at h3 h4
 refine leaf (hx1.trans (hx2.trans hx3 (Nat.le_refl _)) (Nat.le_refl _)) (List.nil_sublist _) ⟨u3,u4,?_,h3,h4⟩
 rw [qb,qou,qbz]; rfl
theorem qem (n : Int) (d : Nat) {I : Hp} (hn : -128 ≤ n ∧ n ≤ 127) (hd : d ≤ 255) : Fun prog 16 [.int .i8 n,.int .u8 (d : Int)] I [] (fun v I' _ => RatV I' v (mkRat n (d + 1))) := by
 have hl : (natW n.natAbs).length ≤ 3000 := qa2 (k := 1) (by rw [Nat.pow_one]; omega) (by decide)
 have hv : val [d + 1] = d + 1 := by rw [zr,qc4]
 intro w hw
 refine qv _ func16 rfl ntmps16 rfl ?_ hw;refine sR ?_;refine qh trivial rfl zeroValue48 rfl (fun b4 => ?_);refine nS ?_;refine oV ?_;refine ya trivial rfl underlying55 underlying3 rfl (by rw [IntWalk.i64_in _ (by omega)]) ?_;refine oI call32 rfl (qor n (by omega)) ?_;rintro _ I1 hx1 ⟨u1,rfl,hs1⟩;refine oV ?_;refine ya trivial rfl underlying5 underlying83 rfl (by rw [IntWalk.u32_in _ (by omega)]) ?_;refine qbf trivial rfl rfl rfl (by rw [IntWalk.u32_in _ (by omega)]) ?_;refine oB underlying46 sizeOf83 zeroValue83 fun b11 => ?_;refine qaz [d + 1] .here (jx (by omega) zc) (by unfold maxLen; simp) (fun I2 hx2 hs2 => ?_);refine oI call31 rfl (qfz (decide (n < 0)) _ _ _ _ (hs1.le hx2.le) hs2 hl (by simp)) ?_;rintro _ I3 hx3 ⟨u3,u4,rfl,h3,h4⟩;refine oS sizeOf48 ?_;refine nE ?_;refine retR rfl (.agg isAgg48 sizeOf48 rfl (by repeat constructor) rfl .nil) ?_
 rw [qb,hv,qbz] at h3 h4
 refine leaf (hx1.trans (hx2.trans hx3 (Nat.le_refl _)) (Nat.le_refl _)) (List.nil_sublist _) ⟨u3,u4,?_,h3,h4⟩
 rw [qb,hv,qbz]; rfl
theorem qov (p q : Rat) (va vb vc vd : Value) {I : Hp} (ha : Ws I va (natW p.num.natAbs)) (hb : Ws I vb (natW p.den)) (hc : Ws I vc (natW q.num.natAbs)) (hd : Ws I vd (natW q.den)) (hp : Few 3000 p) (hq : Few 3000 q) : Fun prog 91 [.agg #[.bool (decide (p.num < 0)),va,vb],.agg #[.bool (decide (q.num < 0)),vc,vd]] I [] (fun v I' _ => IntV I' v (p.num * (q.den : Int))) := by
 have hm := qxg va vd p.num (q.den : Int) ha (by rw [Int.natAbs_natCast]; exact hd) (yj hp.num (by decide)) (by rw [Int.natAbs_natCast]; exact yj hq.den (by decide))
 rw [decide_eq_false (by omega : ¬ (q.den : Int) < 0)] at hm
 intro w hw
 refine qv _ func91 rfl ntmps91 rfl ?_ hw;refine sR ?_;refine qo trivial rfl rfl rfl (fun b2 => ?_);refine qo trivial rfl rfl rfl (fun b3 => ?_);refine qh trivial rfl zeroValue81 rfl (fun b4 => ?_);refine nS ?_;refine oF 0 underlying48 sizeOf4 ?_;refine oL isAgg4 ?_;refine oF 1 underlying48 sizeOf46 ?_;refine oL isAgg46 ?_;refine vg trivial rfl (zk) rfl (.cons rfl rfl rfl (by repeat constructor) (.cons rfl (by exact (Ws.cells1 (by assumption)).1) (by rfl) (by repeat constructor) .nil)) ?_;refine oF 2 underlying48 sizeOf46 ?_;refine oL isAgg46 ?_;refine vg trivial rfl (zk) rfl (.cons rfl (by exact (Ws.cells1 (by assumption)).1) (by rfl) (by repeat constructor) .nil) ?_;refine oI call125 rfl hm ?_;rintro _ I1 hx1 ⟨u1,rfl,hs1⟩;refine oS sizeOf81 ?_;refine nE ?_;refine retR rfl (.agg isAgg81 sizeOf81 rfl (by repeat constructor) rfl .nil) ?_;exact leaf hx1 (List.nil_sublist _) ⟨u1,rfl,hs1⟩
theorem qow (p q : Rat) (va vb vc vd : Value) {I : Hp} (ha : Ws I va (natW p.num.natAbs)) (hb : Ws I vb (natW p.den)) (hc : Ws I vc (natW q.num.natAbs)) (hd : Ws I vd (natW q.den)) (hp : Few 1400 p) (hq : Few 1400 q) : Fun prog 63 [.agg #[.bool (decide (p.num < 0)),va,vb],.agg #[.bool (decide (q.num < 0)),vc,vd]] I [] (fun v I' _ => RatV I' v (p + q)) := by
 have hl1 := yj hp.num (Nat.le_refl _)
 have hl2 := yj hp.den (Nat.le_refl _)
 have hl3 := yj hq.num (Nat.le_refl _)
 have hl4 := yj hq.den (Nat.le_refl _)
 have e1 : (natW (p.num * (q.den : Int)).natAbs).length ≤ 2800 := by rw [Int.natAbs_mul]; exact Nat.le_trans (yq _ _) (by rw [Int.natAbs_natCast]; omega)
 have e2 : (natW (q.num * (p.den : Int)).natAbs).length ≤ 2800 := by rw [Int.natAbs_mul]; exact Nat.le_trans (yq _ _) (by rw [Int.natAbs_natCast]; omega)
 have e3 : (natW (p.num * (q.den : Int) + q.num * (p.den : Int)).natAbs).length ≤ 3000 := Nat.le_trans (y8 (Int.natAbs_add_le _ _)) (Nat.le_trans (qd9 _ _ 2800 e1 e2) (by decide))
 intro w hw
 refine qv _ func63 rfl ntmps63 rfl ?_ hw;refine sR ?_;refine qo trivial rfl rfl rfl (fun b2 => ?_);refine qo trivial rfl rfl rfl (fun b3 => ?_);refine qh trivial rfl zeroValue48 rfl (fun b4 => ?_);refine nS ?_;refine oA isAgg48 sizeOf48 ?_;refine oI call43 rfl (qcs p _ _ ha hb (hp.le (by decide))) ?_;rintro _ I1 hx1 ⟨n1,d1,rfl,hn1,hd1⟩;refine qh trivial rfl zeroValue48 rfl (fun b5 => ?_);refine oS sizeOf48 ?_;refine nS ?_;refine oA isAgg48 sizeOf48 ?_;refine oI call43 rfl (qcs q _ _ (hc.le hx1.le) (hd.le hx1.le) (hq.le (by decide))) ?_;rintro _ I2 hx2 ⟨n2,d2,rfl,hn2,hd2⟩;refine qh trivial rfl zeroValue48 rfl (fun b6 => ?_);refine oS sizeOf48 ?_;refine oN (tC (cS ?_));refine yb (m := 14) [.box b5 _,.box b6 _] (by repeat constructor) (by kernel_rfl) rfl ?_;refine qT (i := 0) (qB 14 1) (Hp.Le.refl _) rfl rfl (oA isAgg48 sizeOf48 qF) ?_;refine qT (i := 1) (qB 14 3) (Hp.Le.refl _) rfl rfl (oA isAgg48 sizeOf48 qF) ?_;refine qT (i := 3) (qB 14 11) (Hp.Le.refl _) rfl rfl (oA isAgg48 sizeOf48 qF) ?_;refine qT (i := 4) (qB 14 27) (Hp.Le.refl _) rfl rfl (oA isAgg48 sizeOf48 qF) ?_;refine qT (i := 7) (qB 14 155) (Hp.Le.refl _) rfl rfl (oF 2 underlying48 sizeOf46 qF) ?_;refine qT (i := 8) (qB 14 411) (Hp.Le.refl _) rfl rfl (oL isAgg46 qF) ?_;refine qT (i := 9) (qB 14 923) (Hp.Le.refl _) rfl rfl (oF 2 underlying48 sizeOf46 qF) ?_
 refine qT (i := 10) (qB 14 1947) (Hp.Le.refl _) rfl rfl (oL isAgg46 qF) ?_;refine qO (i := 2) (qB 14 1951) rfl ?_;refine oI call91 rfl (qov p q _ _ _ _ (hn1.le hx2.le) (hd1.le hx2.le) hn2 hd2 (hp.le (by decide)) (hq.le (by decide))) ?_;rintro _ I3 hx3 ⟨u3,rfl,hs3⟩;refine qM (hx3.le) ?_;refine qO (i := 5) (qB 14 1983) rfl ?_;refine oI call91 rfl (qov q p _ _ _ _ (hn2.le hx3.le) (hd2.le hx3.le) (hn1.le (hx2.le.trans hx3.le)) (hd1.le (hx2.le.trans hx3.le)) (hq.le (by decide)) (hp.le (by decide))) ?_;rintro _ I4 hx4 ⟨u4,rfl,hs4⟩;refine qM ((hx3.le).trans hx4.le) ?_;refine qO (i := 6) (qB 14 2047) rfl ?_;refine oI call90 rfl (qxi _ _ (p.num * (q.den : Int)) (q.num * (p.den : Int)) (hs3.le hx4.le) hs4 (by omega) (by omega)) ?_;rintro _ I5 hx5 ⟨u5,rfl,hs5⟩;refine qM (((hx3.le).trans hx4.le).trans hx5.le) ?_;refine qO (i := 11) (qB 14 4095) rfl ?_;refine oI call92 rfl (qhg _ _ _ _ (hd1.le (hx2.le.trans (hx3.le.trans (hx4.le.trans hx5.le)))) (hd2.le (hx3.le.trans (hx4.le.trans hx5.le))) (by omega) (by omega)) ?_;rintro u6 I6 hx6 hs6;refine qM ((((hx3.le).trans hx4.le).trans hx5.le).trans hx6.le) ?_;refine qO (i := 12) (qB 14 8191) rfl ?_;refine oI call31 rfl (qfz (decide (p.num * (q.den : Int) + q.num * (p.den : Int) < 0)) _ _ _ _ (hs5.le hx6.le) hs6 e3 (by rw [qb,qb]; exact Nat.le_trans (yq _ _) (by omega))) ?_;rintro _ I7 hx7 ⟨u7,u8,rfl,h1,h2⟩;refine qM (((((hx3.le).trans hx4.le).trans hx5.le).trans hx6.le).trans hx7.le) ?_
 refine qO (i := 13) (qB 14 16383) rfl ?_;refine oS sizeOf48 ?_;refine qM (((((hx3.le).trans hx4.le).trans hx5.le).trans hx6.le).trans hx7.le) ?_;refine qn (by kernel_rfl) ?_;refine tC (cT ?_);refine retR rfl (.agg isAgg48 sizeOf48 rfl (by repeat constructor) rfl .nil) ?_
 rw [qb,qb,qb,qb,qfu] at h1 h2
 refine leaf (hx1.trans (hx2.trans (hx3.trans (hx4.trans (hx5.trans (hx6.trans hx7 (Nat.le_refl _)) (Nat.le_refl _)) (Nat.le_refl _)) (Nat.le_refl _)) (Nat.le_refl _)) (Nat.le_refl _)) (List.nil_sublist _) ⟨u7,u8,?_,h1,h2⟩
 rw [qb,qb,qb,qb,qfu]; rfl
theorem qox (q : Rat) (va vb : Value) {I : Hp} (ha : Ws I va (natW q.num.natAbs)) (hb : Ws I vb (natW q.den)) (hk : Few 3000 q) : Fun prog 67 [.agg #[.bool (decide (q.num < 0)),va,vb]] I [] (fun v I' _ => RatV I' v (-q)) := by
 intro w hw
 refine q9 _ func67 rfl ntmps67 rfl ?_ hw;refine sR ?_;refine qo trivial rfl rfl rfl (fun b1 => ?_);refine qh trivial rfl zeroValue48 rfl (fun b2 => ?_);refine nS ?_;refine oA isAgg48 sizeOf48 ?_;refine oI call43 rfl (qcs q _ _ ha hb hk) ?_;rintro _ I1 hx1 ⟨n1,d1,rfl,hn1,hd1⟩;refine qh trivial rfl zeroValue48 rfl (fun b3 => ?_);refine oS sizeOf48 ?_;refine nS ?_;refine oF 0 underlying48 sizeOf4 ?_;refine oL isAgg4 ?_;refine oV ?_;refine' oY (fun hb9 => ?_) ?_;rotate_left
 ·
  have fb9 := hb9
  try simp only [bl] at fb9
  refine gF hb9 1 underlying48 sizeOf46 ?_;refine gL hb9 isAgg46 ?_;refine vj (wS rfl rfl hb9) rfl underlying46 rfl (hn1) ?_;refine gV hb9 ?_;refine oN ?_;exact qa rfl
 refine oF 0 underlying48 sizeOf4 ?_;refine oS sizeOf4 ?_;refine nS ?_;refine oA isAgg48 sizeOf48 ?_;refine oS sizeOf48 ?_;refine nE ?_;refine retR rfl (.agg isAgg48 sizeOf48 rfl (by repeat constructor) rfl .nil) ?_;refine leaf hx1 (List.nil_sublist _) ⟨n1,d1,?_,by rw [Rat.neg_num,Int.natAbs_neg]; exact hn1,by rw [Rat.neg_den]; exact hd1⟩
 have e : (!decide (q.num < 0) && decide (((natW q.num.natAbs).length : Int) > 0)) = decide ((-q).num < 0) := by
   rw [Rat.neg_num,Bool.eq_iff_iff]
   simp only [Bool.and_eq_true,Bool.not_eq_true',decide_eq_false_iff_not,decide_eq_true_eq]
   by_cases h0 : q.num = 0
   · have e2 : (natW q.num.natAbs).length = 0 := by rw [h0, Int.natAbs_zero, yh]; rfl
     omega
   · have e2 : (natW q.num.natAbs).length ≠ 0 := fun e => by have := jh.1 e; omega
     omega
 rw [e]; rfl
theorem qxk (p q : Rat) (va vb vc vd : Value) {I : Hp} (ha : Ws I va (natW p.num.natAbs)) (hb : Ws I vb (natW p.den)) (hc : Ws I vc (natW q.num.natAbs)) (hd : Ws I vd (natW q.den)) (hp : Few 1400 p) (hq : Few 1400 q) : Fun prog 64 [.agg #[.bool (decide (p.num < 0)),va,vb],.agg #[.bool (decide (q.num < 0)),vc,vd]] I [] (fun v I' _ => RatV I' v (p - q)) := by
 intro w hw
 refine qv _ func64 rfl ntmps64 rfl ?_ hw;refine sR ?_;refine qo trivial rfl rfl rfl (fun b2 => ?_);refine qo trivial rfl rfl rfl (fun b3 => ?_);refine qh trivial rfl zeroValue48 rfl (fun b4 => ?_);refine oN (tC (cS ?_));refine yb (m := 5) [.box b2 _,.box b3 _] (by repeat constructor) (by kernel_rfl) rfl ?_;refine qT (i := 0) (qB 5 1) (Hp.Le.refl _) rfl rfl (oA isAgg48 sizeOf48 qF) ?_;refine qT (i := 1) (qB 5 3) (Hp.Le.refl _) rfl rfl (oA isAgg48 sizeOf48 qF) ?_;refine qO (i := 2) (qB 5 7) rfl ?_;refine oI call67 rfl (qox q _ _ hc hd (hq.le (by decide))) ?_;rintro _ I1 hx1 ⟨u1,u2,rfl,h1,h2⟩;refine qM (hx1.le) ?_;refine qO (i := 3) (qB 5 15) rfl ?_;refine oI call63 rfl (qow p (-q) _ _ _ _ (ha.le hx1.le) (hb.le hx1.le) h1 h2 hp hq.neg) ?_;rintro _ I2 hx2 ⟨u3,u4,rfl,h3,h4⟩;refine qM ((hx1.le).trans hx2.le) ?_;refine qO (i := 4) (qB 5 31) rfl ?_;refine oS sizeOf48 ?_;refine qM ((hx1.le).trans hx2.le) ?_;refine qn (by kernel_rfl) ?_;refine tC (cT ?_);refine retR rfl (.agg isAgg48 sizeOf48 rfl (by repeat constructor) rfl .nil) ?_
 rw [← Rat.sub_eq_add_neg] at h3 h4
 refine leaf (hx1.trans hx2 (Nat.le_refl _)) (List.nil_sublist _) ⟨u3,u4,?_,h3,h4⟩
 rw [← Rat.sub_eq_add_neg]; rfl
theorem qju (p q : Rat) (va vb vc vd : Value) {I : Hp} (ha : Ws I va (natW p.num.natAbs)) (hb : Ws I vb (natW p.den)) (hc : Ws I vc (natW q.num.natAbs)) (hd : Ws I vd (natW q.den)) (hp : Few 1400 p) (hq : Few 1400 q) : Fun prog 65 [.agg #[.bool (decide (p.num < 0)),va,vb],.agg #[.bool (decide (q.num < 0)),vc,vd]] I [] (fun v I' _ => RatV I' v (p * q)) := by
 have hl1 := yj hp.num (Nat.le_refl _)
 have hl2 := yj hp.den (Nat.le_refl _)
 have hl3 := yj hq.num (Nat.le_refl _)
 have hl4 := yj hq.den (Nat.le_refl _)
 intro w hw
 refine qv _ func65 rfl ntmps65 rfl ?_ hw;refine sR ?_;refine qo trivial rfl rfl rfl (fun b2 => ?_);refine qo trivial rfl rfl rfl (fun b3 => ?_);refine qh trivial rfl zeroValue48 rfl (fun b4 => ?_);refine nS ?_;refine oA isAgg48 sizeOf48 ?_;refine oI call43 rfl (qcs p _ _ ha hb (hp.le (by decide))) ?_;rintro _ I1 hx1 ⟨n1,d1,rfl,hn1,hd1⟩;refine qh trivial rfl zeroValue48 rfl (fun b5 => ?_);refine oS sizeOf48 ?_;refine nS ?_;refine oA isAgg48 sizeOf48 ?_;refine oI call43 rfl (qcs q _ _ (hc.le hx1.le) (hd.le hx1.le) (hq.le (by decide))) ?_;rintro _ I2 hx2 ⟨n2,d2,rfl,hn2,hd2⟩;refine qh trivial rfl zeroValue48 rfl (fun b6 => ?_);refine oS sizeOf48 ?_;refine oN (tC (cS ?_));refine yb (m := 18) [.box b5 _,.box b6 _] (by repeat constructor) (by kernel_rfl) rfl ?_;refine qT (i := 0) (qB 18 1) (Hp.Le.refl _) rfl rfl (oF 0 underlying48 sizeOf4 qF) ?_;refine qT (i := 1) (qB 18 3) (Hp.Le.refl _) rfl rfl (oL isAgg4 qF) ?_;refine qT (i := 2) (qB 18 7) (Hp.Le.refl _) rfl rfl (oF 0 underlying48 sizeOf4 qF) ?_;refine qT (i := 3) (qB 18 15) (Hp.Le.refl _) rfl rfl (oL isAgg4 qF) ?_;refine qT (i := 4) (qB 18 31) (Hp.Le.refl _) rfl rfl (qfn trivial rfl rfl rfl underlying4 qF) ?_;refine qT (i := 5) (qB 18 63) (Hp.Le.refl _) rfl rfl (oF 1 underlying48 sizeOf46 qF) ?_;refine qT (i := 6) (qB 18 127) (Hp.Le.refl _) rfl rfl (oL isAgg46 qF) ?_
 refine qT (i := 7) (qB 18 255) (Hp.Le.refl _) rfl rfl (oF 1 underlying48 sizeOf46 qF) ?_;refine qT (i := 8) (qB 18 511) (Hp.Le.refl _) rfl rfl (oL isAgg46 qF) ?_;refine qT (i := 11) (qB 18 2559) (Hp.Le.refl _) rfl rfl (oF 2 underlying48 sizeOf46 qF) ?_;refine qT (i := 12) (qB 18 6655) (Hp.Le.refl _) rfl rfl (oL isAgg46 qF) ?_;refine qT (i := 13) (qB 18 14847) (Hp.Le.refl _) rfl rfl (oF 2 underlying48 sizeOf46 qF) ?_;refine qT (i := 14) (qB 18 31231) (Hp.Le.refl _) rfl rfl (oL isAgg46 qF) ?_;refine qO (i := 9) (qB 18 31743) rfl ?_;refine oI call92 rfl (qhg _ _ _ _ (hn1.le hx2.le) hn2 (by omega) (by omega)) ?_;rintro u1 I3 hx3 hs3;refine qM (hx3.le) ?_;refine qT (i := 10) (qB 18 32767) (hx3.le) rfl rfl (vg trivial rfl (zk) rfl (.cons rfl rfl rfl (by repeat constructor) (.cons rfl (by exact (Ws.cells1 (by assumption)).1) (by rfl) (by repeat constructor) .nil)) qF) ?_;refine qO (i := 15) (qB 18 65535) rfl ?_;refine oI call92 rfl (qhg _ _ _ _ (hd1.le (hx2.le.trans hx3.le)) (hd2.le hx3.le) (by omega) (by omega)) ?_;rintro u2 I4 hx4 hs4;refine qM ((hx3.le).trans hx4.le) ?_;refine qO (i := 16) (qB 18 131071) rfl ?_;refine oI call31 rfl (qfz (decide (p.num < 0) != decide (q.num < 0)) _ _ _ _ (hs3.le hx4.le) hs4 (by rw [qb,qb]; exact Nat.le_trans (yq _ _) (by omega)) (by rw [qb,qb]; exact Nat.le_trans (yq _ _) (by omega))) ?_;rintro _ I5 hx5 ⟨u3,u4,rfl,h1,h2⟩
 refine qM (((hx3.le).trans hx4.le).trans hx5.le) ?_;refine qO (i := 17) (qB 18 262143) rfl ?_;refine oS sizeOf48 ?_;refine qM (((hx3.le).trans hx4.le).trans hx5.le) ?_;refine qn (by kernel_rfl) ?_;refine tC (cT ?_);refine retR rfl (.agg isAgg48 sizeOf48 rfl (by repeat constructor) rfl .nil) ?_
 rw [qb,qb,qb,qb,qb,qb,qft] at h1 h2
 refine leaf (hx1.trans (hx2.trans (hx3.trans (hx4.trans hx5 (Nat.le_refl _)) (Nat.le_refl _)) (Nat.le_refl _)) (Nat.le_refl _)) (List.nil_sublist _) ⟨u3,u4,?_,h1,h2⟩
 rw [qb,qb,qb,qb,qb,qb,qft]; rfl
end Go.Proofs.YtoincnplajnpnaaGreat
namespace Go.Tw
open Go
theorem qxl {q : Rat} : decide ((q⁻¹).num < 0) = decide (q.num < 0) := by
 rw [Rat.num_inv,decide_eq_decide]
 have := q.den_pos
 by_cases h : q.num < 0
 · have e : q.num.sign = -1 := Int.sign_eq_neg_one_of_neg h
   rw [e]; omega
 · by_cases h0 : q.num = 0
   · rw [h0]; simp
   · have e : q.num.sign = 1 := Int.sign_eq_one_of_pos (by omega)
     rw [e]; omega
theorem qjv {q : Rat} (h : q ≠ 0) : (q⁻¹).num.natAbs = q.den := by
 have hn : q.num ≠ 0 := fun e => h (Rat.num_eq_zero.1 e)
 rw [Rat.num_inv,Int.natAbs_mul,Int.natAbs_natCast]
 rcases Int.lt_or_gt_of_ne hn with h1 | h1
 · rw [Int.sign_eq_neg_one_of_neg h1]; simp
 · rw [Int.sign_eq_one_of_pos h1]; simp
theorem qjw {q : Rat} (h : q ≠ 0) : (q⁻¹).den = q.num.natAbs := by
 have hn : q.num ≠ 0 := fun e => h (Rat.num_eq_zero.1 e)
 rw [Rat.den_inv,if_neg hn]
theorem Few.inv {k : Nat} {q : Rat} (h : Few k q) (h0 : q ≠ 0) : Few k q⁻¹ := ⟨by rw [qjv h0]; exact h.den,by rw [qjw h0]; exact h.num⟩
theorem Few.pow {k : Nat} {q : Rat} (h : Few k q) (m : Nat) : Few (k * m + 1) (q ^ m) := by
 have key : ∀ a : Nat, a < 4294967296 ^ k → a ^ m < 4294967296 ^ (k * m + 1) := fun a ha => by
   have h2 : a ^ m ≤ (4294967296 ^ k) ^ m := Nat.pow_le_pow_left (Nat.le_of_lt ha) m
   rw [← Nat.pow_mul] at h2
   exact Nat.lt_of_le_of_lt h2 (Nat.pow_lt_pow_right (by decide) (Nat.lt_succ_self _))
 exact ⟨by rw [Rat.num_pow,Int.natAbs_pow]; exact key _ h.num,by rw [Rat.den_pow]; exact key _ h.den⟩
def powX (q : Rat) (n : Int) : Rat := if n < 0 then q⁻¹ else q
theorem qjx (q : Rat) (n : Int) : powX q n ^ n.natAbs = q ^ n := by
 unfold powX
 by_cases h : n < 0
 · rw [if_pos h]
   have e : n = -((n.natAbs : Nat) : Int) := by omega
   conv => rhs; rw [e]
   rw [Rat.zpow_neg,Rat.zpow_natCast]
   generalize n.natAbs = k
   induction k with
   | zero => rw [Rat.pow_zero,Rat.pow_zero]; exact (Rat.inv_eq_of_mul_eq_one (Rat.mul_one 1)).symm
   | succ k ih => rw [Rat.pow_succ,Rat.pow_succ,ih,Rat.inv_mul_rev,Rat.mul_comm]
 · rw [if_neg h]
   have e : n = ((n.natAbs : Nat) : Int) := by omega
   conv => rhs; rw [e]
   rw [Rat.zpow_natCast]
theorem qxm (p q : Rat) : (decide (decide (p.num < 0) = decide (q.num < 0)) && decide (natW p.num.natAbs = natW q.num.natAbs) && decide (natW p.den = natW q.den)) = decide (p = q) := by
 rw [Bool.eq_iff_iff]
 simp only [Bool.and_eq_true,decide_eq_true_eq]
 constructor
 · rintro ⟨⟨h1, h2⟩, h3⟩
   have e2 := congrArg val h2
   have e3 := congrArg val h3
   rw [qb,qb] at e2 e3
   rw [decide_eq_decide] at h1
   exact Rat.ext (by omega) e3
 · rintro rfl
   exact ⟨⟨rfl,rfl⟩,rfl⟩
theorem RV.at_ {I : Hp} {v : Value} {rs : List RV} (h : Slc I 3 v (rcs rs)) {i : Nat} {r : RV} (hr : rs[i]? = some r) : ∀ k y, ([.bool (decide (r.q.num < 0)), r.vn, r.vd] : List Value)[k]? = some y → I.cell? ⟨slcB v, slcO v + i * 3 + k, none⟩ = some y :=
 h.cells i _ (by unfold rcs; rw [List.getElem?_map,hr]; rfl)
end Go.Tw
namespace Go.Proofs.YtoincnplajnpnaaGreat
open Go Go.Tw
theorem qoy (q : Rat) (va vb : Value) {I : Hp} (ha : Ws I va (natW q.num.natAbs)) (hb : Ws I vb (natW q.den)) (hk : Few 3000 q) (h0 : q ≠ 0) : Fun prog 94 [.agg #[.bool (decide (q.num < 0)),va,vb]] I [] (fun v I' _ => RatV I' v q⁻¹) := by
 intro w hw
 refine q9 _ func94 rfl ntmps94 rfl ?_ hw;refine sR ?_;refine qo trivial rfl rfl rfl (fun b1 => ?_);refine qh trivial rfl zeroValue48 rfl (fun b2 => ?_);refine nS ?_;refine oA isAgg48 sizeOf48 ?_;refine oI call43 rfl (qcs q _ _ ha hb hk) ?_;rintro _ I1 hx1 ⟨n1,d1,rfl,hn1,hd1⟩;refine qh trivial rfl zeroValue48 rfl (fun b3 => ?_);refine oS sizeOf48 ?_;refine nS ?_;refine oF 0 underlying48 sizeOf4 ?_;refine oL isAgg4 ?_;refine oF 2 underlying48 sizeOf46 ?_;refine oL isAgg46 ?_;refine oF 1 underlying48 sizeOf46 ?_;refine oL isAgg46 ?_;refine vg trivial rfl (zd) rfl (.cons rfl rfl rfl (by repeat constructor) (.cons rfl (by exact (Ws.cells1 (by assumption)).1) (by rfl) (by repeat constructor) (.cons rfl (by exact (Ws.cells1 (by assumption)).1) (by rfl) (by repeat constructor) .nil))) ?_;refine oS sizeOf48 ?_;refine nE ?_;refine retR rfl (.agg isAgg48 sizeOf48 rfl (by repeat constructor) rfl .nil) ?_;refine leaf hx1 (List.nil_sublist _) ⟨d1,n1,?_,by rw [qjv h0]; exact hd1,by rw [qjw h0]; exact hn1⟩
 rw [qxl]; rfl
theorem qoz (q : Rat) (va vb : Value) {I : Hp} (ha : Ws I va (natW q.num.natAbs)) (hb : Ws I vb (natW q.den)) (hk : Few 3000 q) : Fun prog 93 [.agg #[.bool (decide (q.num < 0)),va,vb]] I [] (fun v _ _ => v = .bool (decide (q = 0))) := by
 intro w hw
 refine q9 _ func93 rfl ntmps93 rfl ?_ hw;refine sR ?_;refine qo trivial rfl rfl rfl (fun b1 => ?_);refine oV ?_;refine nS ?_;refine oA isAgg48 sizeOf48 ?_;refine oI call43 rfl (qcs q _ _ ha hb hk) ?_;rintro _ I1 hx1 ⟨n1,d1,rfl,hn1,hd1⟩;refine qh trivial rfl zeroValue48 rfl (fun b3 => ?_);refine oS sizeOf48 ?_;refine nS ?_;refine oF 1 underlying48 sizeOf46 ?_;refine oL isAgg46 ?_;refine vj trivial rfl underlying46 rfl (hn1) ?_;iterate 2 refine oV ?_
 refine nE ?_;refine ret1 rfl rfl ?_;refine leaf hx1 (List.nil_sublist _) (congrArg Value.bool ?_)
 rw [Bool.eq_iff_iff,beq_iff_eq,decide_eq_true_eq,qg9]
 constructor
 · intro h; have := jh.1 (show (natW q.num.natAbs).length = 0 by omega); omega
 · intro h; rw [h,Int.natAbs_zero,yh]; rfl
theorem qxn (p q : Rat) (va vb vc vd : Value) {I : Hp} (ha : Ws I va (natW p.num.natAbs)) (hb : Ws I vb (natW p.den)) (hc : Ws I vc (natW q.num.natAbs)) (hd : Ws I vd (natW q.den)) (hp : Few 1400 p) (hq : Few 1400 q) : Fun prog 66 [.agg #[.bool (decide (p.num < 0)),va,vb],.agg #[.bool (decide (q.num < 0)),vc,vd]] I [] (fun v I' _ => okR (q = 0) (p / q) I' v) := by
 intro w hw
 refine qv _ func66 rfl ntmps66 rfl ?_ hw;refine sR ?_;refine qo trivial rfl rfl rfl (fun b2 => ?_);refine qo trivial rfl rfl rfl (fun b3 => ?_);refine qh trivial rfl zeroValue48 rfl (fun b4 => ?_);refine oV ?_;refine nS ?_;refine oA isAgg48 sizeOf48 ?_;refine oQ call93 rfl (qoz q _ _ hc hd (hq.le (by decide))) ?_;refine oV ?_;refine nU ?_;refine oV ?_;refine nT ?_;refine cC rfl (fun h1 => ?_) (fun h1 => ?_)
 ·
  have f1 := h1;try simp only [bl] at f1
  refine sR ?_;refine vg trivial rfl (zd) rfl .nil ?_;refine oS sizeOf48 ?_;refine oV ?_;refine nF ?_;refine retR rfl (.agg isAgg48 sizeOf48 rfl (by repeat constructor) rfl (.tmp rfl .nil)) ?_;refine qg ⟨false,.slice none 0 0,.slice none 0 0,[],[],?_,Ws.nil _,Ws.nil _,fun h => absurd f1 h⟩; rw [if_pos f1]; rfl
 have f1 := h1;try simp only [bl] at f1
 refine cK (tC (cS ?_));refine yb (m := 6) [.box b2 _,.box b3 _] (by repeat constructor) (by kernel_rfl) rfl ?_;refine qT (i := 0) (qB 6 1) (Hp.Le.refl _) rfl rfl (oA isAgg48 sizeOf48 qF) ?_;refine qT (i := 1) (qB 6 3) (Hp.Le.refl _) rfl rfl (oA isAgg48 sizeOf48 qF) ?_;refine qO (i := 2) (qB 6 7) rfl ?_;refine oI call94 rfl (qoy q _ _ hc hd (hq.le (by decide)) f1) ?_;rintro _ I1 hx1 ⟨u1,u2,rfl,h1,h2⟩;refine qM (hx1.le) ?_;refine qO (i := 3) (qB 6 15) rfl ?_;refine oI call65 rfl (qju p q⁻¹ _ _ _ _ (ha.le hx1.le) (hb.le hx1.le) h1 h2 hp (hq.inv f1)) ?_;rintro _ I2 hx2 ⟨u3,u4,rfl,h3,h4⟩;refine qM ((hx1.le).trans hx2.le) ?_;refine qO (i := 4) (qB 6 31) rfl ?_;refine oS sizeOf48 ?_;refine qM ((hx1.le).trans hx2.le) ?_;refine qT (i := 5) (qB 6 63) ((hx1.le).trans hx2.le) rfl rfl (oV qF) ?_;refine qn (by kernel_rfl) ?_;refine tC (cT ?_);refine retR rfl (.agg isAgg48 sizeOf48 rfl (by repeat constructor) rfl (.tmp rfl .nil)) ?_
 rw [← Rat.div_def] at h3 h4
 refine leaf (hx1.trans hx2 (Nat.le_refl _)) (List.nil_sublist _) ⟨_,u3,u4,_,_,?_,h3,h4,fun _ => ⟨rfl,rfl,rfl⟩⟩
 rw [← Rat.div_def,if_neg f1]; rfl
theorem qxo (q : Rat) (n : Int) (va vb : Value) {I : Hp} {c : Nat} (ha : Ws I va (natW q.num.natAbs)) (hb : Ws I vb (natW q.den)) (hc : Few c q) (hn : -64 ≤ n ∧ n ≤ 64) (hc1 : c ≤ 1300) (hcn : c * n.natAbs ≤ 1300) : Fun prog 68 [.agg #[.bool (decide (q.num < 0)),va,vb],.int .i64 n] I [] (fun v I' _ => okR (n < 0 ∧ q = 0) (q ^ n) I' v) := by
 intro w hw
 refine qv _ func68 rfl ntmps68 rfl ?_ hw;refine sR ?_;refine qo trivial rfl rfl rfl (fun b2 => ?_);refine qh trivial rfl zeroValue48 rfl (fun b4 => ?_);refine oV ?_;refine nU ?_;iterate 2 refine oV ?_
 refine' oZ (fun hb12 => ?_) ?_;rotate_left
 ·
  iterate 2 refine gV hb12 ?_
  refine oN ?_;exact qa rfl
 refine nT ?_;refine cC rfl (fun h1 => ?_) (fun h1 => ?_)
 ·
  have f1 := h1;try simp only [bl] at f1
  exfalso; omega
 have f1 := h1;try simp only [bl] at f1
 refine kS ?_;refine oA isAgg48 sizeOf48 ?_;refine oQ call93 rfl (qoz q _ _ ha hb (hc.le (by omega))) ?_;refine oV ?_;refine nU ?_;refine oV ?_;refine' oY (fun hb20 => ?_) ?_;rotate_left
 ·
  iterate 2 refine gV hb20 ?_
  refine oN ?_;exact qa rfl
 refine nT ?_;refine cC rfl (fun h2 => ?_) (fun h2 => ?_)
 ·
  have f2 := h2;try simp only [bl] at f2
  have h0 : n < 0 ∧ q = 0 := ⟨f2.2,f2.1⟩
  refine sR ?_;refine vg trivial rfl (zd) rfl .nil ?_;refine oS sizeOf48 ?_;refine oV ?_;refine nF ?_;refine retR rfl (.agg isAgg48 sizeOf48 rfl (by repeat constructor) rfl (.tmp rfl .nil)) ?_;refine qg ⟨false,.slice none 0 0,.slice none 0 0,[],[],?_,Ws.nil _,Ws.nil _,fun h => absurd h0 h⟩; rw [if_pos h0]; rfl
 have f2 := h2;try simp only [bl] at f2
 have h0 : ¬ (n < 0 ∧ q = 0) := by
   rintro ⟨k1,k2⟩
   rcases f2 with f2 | f2
   · exact f2 k2
   · omega
 refine kS ?_;refine oA isAgg48 sizeOf48 ?_;refine oI call43 rfl (qcs q _ _ ha hb (hc.le (by omega))) ?_;rintro _ I1 hx1 ⟨n1,d1,rfl,hn1,hd1⟩;refine qh trivial rfl zeroValue48 rfl (fun b7 => ?_);refine oS sizeOf48 ?_;refine nT ?_;refine jk (ι := Value × Value × Hp) [4,7] (.cons rfl (.cons rfl .nil)) (fun z E0 => (1,.int .i64 (n.natAbs : Nat)) :: E0) (fun z => St w [] z.2.2 [.box b7 (.cells [.bool (decide ((powX q n).num < 0)),z.1,z.2.1].toArray 48 (0,0)),.box b4 (.cells [.bool false,.slice none 0 0,.slice none 0 0].toArray 48 (0,0)),.box b2 (.cells [.bool (decide (q.num < 0)),va,vb].toArray 48 (0,0))]) (fun z => Ws z.2.2 z.1 (natW (powX q n).num.natAbs) ∧ Ws z.2.2 z.2.1 (natW (powX q n).den) ∧ Few c (powX q n) ∧ Ext w.heap.size I z.2.2) ?_ ?_
 ·
  refine sR ?_;iterate 2 refine oV ?_
  refine nT ?_;refine cC rfl (fun h3 => ?_) (fun h3 => ?_)
  ·
   have f3 := h3;try simp only [bl] at f3
   have hq0 : q ≠ 0 := fun e => h0 ⟨f3,e⟩
   have hpx : powX q n = q⁻¹ := if_pos f3
   have hneg : IntKind.i64.wrap (0 - n) = ((n.natAbs : Nat) : Int) := by rw [IntWalk.i64_in _ (by omega)]; omega
   refine sR ?_;refine oA isAgg48 sizeOf48 ?_;refine oI call94 rfl (qoy q _ _ (ha.le hx1.le) (hb.le hx1.le) (hc.le (by omega)) hq0) ?_;rintro _ I9 hx9 ⟨n9,d9,rfl,hn9,hd9⟩;refine oS sizeOf48 ?_;refine nR ?_;iterate 3 refine oV ?_
   refine oN ?_
   (rw [hpx]; exact meet (n9,d9,I9) (by rw [← hneg]; exact (sC rfl (sC rfl (sC rfl sN)))) (fun _ h => h.sort (by repeat constructor)) ⟨hn9,hd9,hc.inv hq0,hx1.trans hx9 (Nat.le_refl _)⟩)
  have f3 := h3;try simp only [bl] at f3
  have hpx : powX q n = q := if_neg (by omega)
  have hneg : n = ((n.natAbs : Nat) : Int) := by omega
  refine cK ?_
  (rw [hpx]; exact meet (n1,d1,I1) (by rw [← hneg]; exact (sC rfl (sC rfl (sC rfl sN)))) (fun _ h => h.sort (by repeat constructor)) ⟨hn1,hd1,hc,hx1⟩)
 rintro ⟨xn,xd,I2⟩ ⟨hxn,hxd,hxf,hx2⟩
 try dsimp only
 refine cS ?_
 simp only at hxn hxd hxf hx2
 refine cR ?_;refine oI call13 rfl (qel 1 (by decide)) ?_;rintro _ I3 hx3 ⟨u3,u4,rfl,h3,h4⟩;refine qh trivial rfl zeroValue48 rfl (fun b8 => ?_);refine oS sizeOf48 ?_;refine nU ?_;refine oV ?_;refine oN (tC (cB ?_));refine qu (ι := Nat × Value × Value × Hp) [1,4,7,8] (.cons rfl (.cons rfl (.cons rfl (.cons rfl .nil)))) (fun z => n.natAbs - z.1) (fun z E0 => (9,.int .i64 (z.1 : Nat)) :: E0) (fun z => St w [] z.2.2.2 [.box b8 (.cells [.bool (decide ((powX q n ^ z.1).num < 0)),z.2.1,z.2.2.1].toArray 48 (0,0)),.box b7 (.cells [.bool (decide ((powX q n).num < 0)),xn,xd].toArray 48 (0,0)),.box b4 (.cells [.bool false,.slice none 0 0,.slice none 0 0].toArray 48 (0,0)),.box b2 (.cells [.bool (decide (q.num < 0)),va,vb].toArray 48 (0,0))]) (fun z => z.1 ≤ n.natAbs ∧ Ws z.2.2.2 z.2.1 (natW (powX q n ^ z.1).num.natAbs) ∧ Ws z.2.2.2 z.2.2.1 (natW (powX q n ^ z.1).den) ∧ Ext w.heap.size I z.2.2.2 ∧ I2.Le z.2.2.2) ((0,u3,u4,I3)) (sC rfl (sC rfl (sC rfl (sC rfl (sC rfl sN))))) (fun _ h => by simp only [Rat.pow_zero]; exact h) (⟨Nat.zero_le _,by simp only [Rat.pow_zero]; exact h3,by simp only [Rat.pow_zero]; exact h4,hx2.trans hx3 (Nat.le_refl _),hx3.le⟩) ?_;rintro ⟨i,un,ud,I4⟩ ⟨hi,hun,hud,hx4,hle⟩
 try dsimp only
 simp only at hi hun hud hx4 hle
 refine cS (sR ?_);iterate 3 refine oV ?_
 refine nT ?_;refine cC rfl (fun h4 => ?_) (fun h4 => ?_)
 ·
  have f4 := h4;try simp only [bl] at f4
  have hif : Few 1400 (powX q n ^ i) := (hxf.pow i).le (by
    have h9 : c * i ≤ c * n.natAbs := Nat.mul_le_mul_left _ hi
    omega)
  refine cK (tC (cS (cB (cR ?_))));iterate 2 refine oA isAgg48 sizeOf48 ?_
  refine oI call65 rfl (qju (powX q n ^ i) (powX q n) _ _ _ _ hun hud (hxn.le hle) (hxd.le hle) hif (hxf.le (by omega))) ?_;rintro _ I5 hx5 ⟨u5,u6,rfl,h5,h6⟩;refine oS sizeOf48 ?_;refine oN (qe (tC (cR ?_)));refine oV ?_
  (refine qf trivial rfl rfl rfl ?_ ?_; (omega))
  refine oV ?_;refine oN ?_
  rw [← Rat.pow_succ] at h5 h6
  exact qj (i + 1,u5,u6,I5) (sC rfl (sC rfl (sC rfl (sC rfl (sC rfl sN))))) (fun _ h => by rw [← Rat.pow_succ] at h; exact h) (by show n.natAbs - (i + 1) < n.natAbs - i; omega) ⟨by show i + 1 ≤ _; omega,h5,h6,hx4.trans hx5 (Nat.le_refl _),hle.trans hx5.le⟩
 have f4 := h4;try simp only [bl] at f4
 refine qq (qc (qc (qp rfl (tC (sR ?_)))));refine oA isAgg48 sizeOf48 ?_;refine oS sizeOf48 ?_;refine oV ?_;refine nE ?_;refine retR rfl (.agg isAgg48 sizeOf48 rfl (by repeat constructor) rfl (.tmp rfl .nil)) ?_
 have hie : i = n.natAbs := by omega
 subst hie
 rw [qjx] at hun hud
 refine leaf hx4 (List.nil_sublist _) ⟨_,un,ud,_,_,?_,hun,hud,fun _ => ⟨rfl,rfl,rfl⟩⟩
 rw [qjx,if_neg h0]; rfl
theorem qxp (va vb : Value) (l m : List Rat) {I : Hp} (ha : RsV I va l) (hb : RsV I vb m) : Fun prog 17 [va,vb] I [] (fun v _ _ => v = .bool (decide (l = m))) := by
 obtain ⟨rs,hs1,ok1,rfl⟩ := ha.out
 obtain ⟨ss,hs2,ok2,rfl⟩ := hb.out
 have hl1 := qao rs
 have hl2 := qao ss
 have hm1 := hs1.most
 unfold maxLen at hm1
 intro w hw
 refine qv _ func17 rfl ntmps17 rfl ?_ hw;refine sR ?_;refine oV ?_;refine nU ?_;refine oV ?_;refine qw trivial rfl underlying39 rfl (hs1) ?_;refine oV ?_;refine qw trivial rfl underlying39 rfl (hs2) ?_;refine oV ?_;refine nT ?_;refine cC rfl (fun h1 => ?_) (fun h1 => ?_)
 ·
  have f1 := h1;try simp only [bl] at f1
  refine sR ?_;refine oV ?_;refine nF ?_;refine ret1 rfl rfl ?_;refine qg (congrArg Value.bool ?_); rw [decide_eq_false]; intro e; have := congrArg List.length e; rw [List.length_map,List.length_map] at this; omega
 have f1 := h1;try simp only [bl] at f1
 refine cK (tC (cS (sR ?_)));refine oV ?_;refine oN (tC (cB ?_));refine qu (ι := Nat) [0,1] (.cons rfl (.cons rfl .nil)) (fun i => rs.length - i) (fun i E0 => (5,.int .i64 (i : Nat)) :: E0) (fun i => St w [] I []) (fun i => i ≤ rs.length ∧ (rs.map RV.q).take i = (ss.map RV.q).take i) (0) (sC rfl (sC rfl (sC rfl sN))) (fun _ h => h) (⟨Nat.zero_le _,rfl⟩) ?_;rintro i ⟨hi,he⟩
 try dsimp only
 refine cS (sR ?_);iterate 2 refine oV ?_
 refine qw trivial rfl underlying39 rfl (hs1) ?_;refine oV ?_;refine nT ?_;refine cC rfl (fun h2 => ?_) (fun h2 => ?_)
 ·
  have f2 := h2;try simp only [bl] at f2
  have hi1 : i < rs.length := by omega
  have hi2 : i < ss.length := by omega
  obtain ⟨r,hr⟩ : ∃ r,rs[i]? = some r := ⟨rs[i],List.getElem?_eq_getElem hi1⟩
  obtain ⟨t,ht⟩ : ∃ t,ss[i]? = some t := ⟨ss[i],List.getElem?_eq_getElem hi2⟩
  obtain ⟨hrn,hrd⟩ := ok1 r (List.mem_of_getElem? hr)
  obtain ⟨htn,htd⟩ := ok2 t (List.mem_of_getElem? ht)
  refine cK (tC (cS (cB (cS ?_))));refine jn (by kernel_rfl) (by kernel_rfl) (fun _ h => h.drawn) ?_;iterate 2 refine oV ?_
  refine vk trivial rfl underlying39 sizeOf48 rfl (hs1) rfl (by omega) ?_;refine y7 trivial rfl isAgg48 sizeOf48 rfl rfl (RV.at_ hs1 hr) ?_;iterate 2 refine oV ?_
  refine vk trivial rfl underlying39 sizeOf48 rfl (hs2) rfl (by omega) ?_;refine y7 trivial rfl isAgg48 sizeOf48 rfl rfl (RV.at_ hs2 ht) ?_;refine oQ call14 rfl (qdf _ _ _ _ _ _ _ _ _ _ hrn hrd htn htd) ?_;refine oV ?_;refine oN (tC (cS ?_))
  rw [qxm]
  refine cR ?_;iterate 2 refine oV ?_
  refine nT ?_;refine cC rfl (fun h3 => ?_) (fun h3 => ?_)
  ·
   have f3 := h3;try simp only [bl] at f3
   refine sR ?_;refine oV ?_;refine oN (tC (cT (qd (tR (tR (qd (tR ?_)))))));refine ret1 rfl rfl ?_;refine qg (congrArg Value.bool ?_); rw [decide_eq_false]; intro e; have e2 := congrArg (fun l => l[i]?) e; simp only [List.getElem?_map,hr,ht,Option.map_some,Option.some.injEq] at e2; exact f3 e2
  have f3 := h3;try simp only [bl] at f3
  refine cK (qe (tC (cR ?_)));refine oV ?_
  (refine qf trivial rfl rfl rfl ?_ ?_; (omega))
  refine oV ?_;refine oN ?_;exact qj (i + 1) (sC rfl (sC rfl (sC rfl sN))) (fun _ h => h) (by show rs.length - (i + 1) < rs.length - i; omega) ⟨by show i + 1 ≤ _; omega,by rw [List.take_add_one,List.take_add_one,he,List.getElem?_map,List.getElem?_map,hr,ht]; simp only [Option.map_some]; rw [f3]⟩
 have f2 := h2;try simp only [bl] at f2
 refine qq (qc (qc (qp rfl (tC (sR ?_)))));refine oV ?_;refine nE ?_;refine ret1 rfl rfl ?_;refine qg (congrArg Value.bool ?_); rw [decide_eq_true]
 have hie : i = rs.length := by omega
 have e1 : (rs.map RV.q).take i = rs.map RV.q := List.take_of_length_le (by rw [List.length_map]; omega)
 have e2 : (ss.map RV.q).take i = ss.map RV.q := List.take_of_length_le (by rw [List.length_map]; omega)
 rw [← e1,← e2,he]
def zz (o : OpC) : Bool :=
 if o.code = 1 then decide (o.a = 0 ∧ o.b = 0 ∧ o.e = 0)
 else if 2 ≤ o.code ∧ o.code ≤ 5 then ve o.neg o.n o.d && decide (o.e = 0)
 else if o.code = 6 then ve o.neg o.n o.d && decide (o.b = 0 ∧ o.e = 0)
 else if o.code = 7 then ve o.neg o.n o.d && decide (o.b = 0)
 else false
theorem qxq (neg : Bool) (A B : List Nat) : (decide (neg = false) && decide (A = []) && decide (B = [])) = ve neg A B := by
 unfold ve
 cases neg <;> cases A <;> cases B <;> simp
theorem qxr (code a b e : Int) (neg : Bool) (va vb : Value) (A B : List Nat) {I : Hp} (ha : Ws I va A) (hb : Ws I vb B) : Fun prog 38 [.agg #[.int .i64 code,.int .i64 a,.int .i64 b,.int .i64 e,.bool neg,va,vb]] I [] (fun v _ _ => v = .bool (zz ⟨code,a,b,e,neg,A,B⟩)) := by
 have hq := qdf neg false va vb (.slice none 0 0) (.slice none 0 0) A B [] [] ha hb (Ws.nil I) (Ws.nil I)
 rw [qxq] at hq
 intro w hw
 refine q9 _ func38 rfl ntmps38 rfl ?_ hw;refine sR ?_;refine qo trivial rfl rfl rfl (fun b1 => ?_);refine oV ?_;refine nS ?_;refine oF 4 underlying53 sizeOf48 ?_;refine oA isAgg48 sizeOf48 ?_;refine vg trivial rfl (zd) rfl .nil ?_;refine oQ call14 rfl hq ?_;refine oV ?_;refine oN (tC (cS (cB (sR ?_))));refine oF 0 underlying53 sizeOf3 ?_;refine oL isAgg3 ?_;iterate 2 refine oV ?_
 refine nT ?_;refine cC rfl (fun h1 => ?_) (fun h1 => ?_)
 ·
  have f1 := h1;try simp only [bl] at f1
  refine sR ?_;refine oF 1 underlying53 sizeOf3 ?_;refine oL isAgg3 ?_;refine oV ?_;refine' oY (fun hb15 => ?_) ?_;rotate_left
  ·
   have fb15 := hb15
   try simp only [bl] at fb15
   refine gF hb15 2 underlying53 sizeOf3 ?_;refine gL hb15 isAgg3 ?_;refine gV hb15 ?_;refine oN ?_;exact qa rfl
  refine' oY (fun hb20 => ?_) ?_;rotate_left
  ·
   have fb20 := hb20
   try simp only [bl] at fb20
   refine gF hb20 3 underlying53 sizeOf3 ?_;refine gL hb20 isAgg3 ?_;refine gV hb20 ?_;refine oN ?_;exact qa rfl
  refine oV ?_;refine oN (tC (cT (qd (tR ?_))));refine ret1 rfl rfl ?_;refine qg (congrArg Value.bool ?_)
  unfold zz
  dsimp only
  (generalize ve neg A B = Z at *
   repeat (rw [if_pos (by omega)])
   try rw [Bool.eq_iff_iff]
   (cases Z <;> simp_all <;> omega))
 have f1 := h1;try simp only [bl] at f1
 refine sR ?_;refine oF 0 underlying53 sizeOf3 ?_;refine oL isAgg3 ?_;refine oV ?_;refine' oY (fun hb29 => ?_) ?_;rotate_left
 ·
  have fb29 := hb29
  try simp only [bl] at fb29
  refine gF hb29 0 underlying53 sizeOf3 ?_;refine gL hb29 isAgg3 ?_;refine gV hb29 ?_;refine oN ?_;exact qa rfl
 refine oV ?_;refine nT ?_;refine cC rfl (fun h2 => ?_) (fun h2 => ?_)
 ·
  have f2 := h2;try simp only [bl] at f2
  refine sR ?_;refine oV ?_;refine' oY (fun hb35 => ?_) ?_;rotate_left
  ·
   have fb35 := hb35
   try simp only [bl] at fb35
   refine gF hb35 3 underlying53 sizeOf3 ?_;refine gL hb35 isAgg3 ?_;refine gV hb35 ?_;refine oN ?_;exact qa rfl
  refine oV ?_;refine oN (tC (cT (qd (tR ?_))));refine ret1 rfl rfl ?_;refine qg (congrArg Value.bool ?_)
  unfold zz
  dsimp only
  (generalize ve neg A B = Z at *
   repeat (first | rw [if_pos (by omega)] | rw [if_neg (by omega)])
   try rw [Bool.eq_iff_iff]
   (cases Z <;> simp_all <;> omega))
 have f2 := h2;try simp only [bl] at f2
 refine sR ?_;refine oF 0 underlying53 sizeOf3 ?_;refine oL isAgg3 ?_;iterate 2 refine oV ?_
 refine nT ?_;refine cC rfl (fun h3 => ?_) (fun h3 => ?_)
 ·
  have f3 := h3;try simp only [bl] at f3
  refine sR ?_;refine oV ?_;refine' oY (fun hb45 => ?_) ?_;rotate_left
  ·
   have fb45 := hb45
   try simp only [bl] at fb45
   refine gF hb45 2 underlying53 sizeOf3 ?_;refine gL hb45 isAgg3 ?_;refine gV hb45 ?_;refine oN ?_;exact qa rfl
  refine' oY (fun hb50 => ?_) ?_;rotate_left
  ·
   have fb50 := hb50
   try simp only [bl] at fb50
   refine gF hb50 3 underlying53 sizeOf3 ?_;refine gL hb50 isAgg3 ?_;refine gV hb50 ?_;refine oN ?_;exact qa rfl
  refine oV ?_;refine oN (tC (cT (qd (tR ?_))));refine ret1 rfl rfl ?_;refine qg (congrArg Value.bool ?_)
  unfold zz
  dsimp only
  (generalize ve neg A B = Z at *
   repeat (first | rw [if_pos (by omega)] | rw [if_neg (by omega)])
   try rw [Bool.eq_iff_iff]
   (cases Z <;> simp_all <;> omega))
 have f3 := h3;try simp only [bl] at f3
 refine sR ?_;refine oF 0 underlying53 sizeOf3 ?_;refine oL isAgg3 ?_;iterate 2 refine oV ?_
 refine nT ?_;refine cC rfl (fun h4 => ?_) (fun h4 => ?_)
 ·
  have f4 := h4;try simp only [bl] at f4
  refine sR ?_;refine oV ?_;refine' oY (fun hb60 => ?_) ?_;rotate_left
  ·
   have fb60 := hb60
   try simp only [bl] at fb60
   refine gF hb60 2 underlying53 sizeOf3 ?_;refine gL hb60 isAgg3 ?_;refine gV hb60 ?_;refine oN ?_;exact qa rfl
  refine oV ?_;refine oN (tC (cT (qd (tR ?_))));refine ret1 rfl rfl ?_;refine qg (congrArg Value.bool ?_)
  unfold zz
  dsimp only
  (generalize ve neg A B = Z at *
   repeat (first | rw [if_pos (by omega)] | rw [if_neg (by omega)])
   try rw [Bool.eq_iff_iff]
   (cases Z <;> simp_all <;> omega))
 have f4 := h4;try simp only [bl] at f4
 refine cK (qe (tC (sR ?_)));refine oV ?_;refine nE ?_;refine ret1 rfl rfl ?_;refine qg (congrArg Value.bool ?_)
 unfold zz
 dsimp only
 first
   | (exfalso; omega)
   | (generalize ve neg A B = Z at *
      repeat (rw [if_neg (by omega)])
      try rw [Bool.eq_iff_iff]
      done)
def wR (o : OpC) (l : List Nat) : Option Nat := if v7 o then wgt o l else none
def wRT (o : OpC) (l : List Nat) (v : Value) : Prop := ∃ m : Int,v = .int .i64 m ∧ (∀ k,wR o l = some k → m = k) ∧ (wR o l = none → m < 0 ∨ 200 < m)
theorem qjy {o : OpC} {l : List Nat} (h : wR o l = none) : wRT o l (.int .i64 (-1)) := ⟨-1,rfl,fun k hk => (by rw [h] at hk; cases hk),fun _ => by omega⟩
theorem qct {o : OpC} {l : List Nat} {M : Nat} {m : Int} (h : wR o l = if M ≤ 200 then some M else none) (hm : m = M) : wRT o l (.int .i64 m) :=
 ⟨m, rfl, fun k hk => by rw [h] at hk; split at hk <;> cases hk; exact hm, fun hk => by
   rw [h] at hk
   split at hk
   · cases hk
   · omega⟩
theorem qo0 {o : OpC} (h : o.code = 1) : v7 o = (yf o.neg o.n o.d && zz o) := by
 unfold v7 zz; rw [if_pos h,if_pos h]
theorem qxs {o : OpC} (h : zz o = false) : v7 o = false := by
 unfold zz at h
 unfold v7
 split
 · rename_i h1; rw [if_pos h1] at h; rw [h,Bool.and_false]
 · rename_i h1
   rw [if_neg h1] at h
   split
   · rename_i h2; rw [if_pos h2] at h; exact h
   · rename_i h2
     rw [if_neg h2] at h
     split
     · rename_i h3; rw [if_pos h3] at h; exact h
     · rename_i h3
       rw [if_neg h3] at h
       split
       · rename_i h4
         rw [if_pos h4] at h
         cases hz : ve o.neg o.n o.d
         · rfl
         · rw [hz] at h
           simp at h
           simp [h]
       · rfl
theorem qo1 {o : OpC} (h1 : ¬ o.code = 1) (h : zz o = true) (he : -20 ≤ o.e ∧ o.e ≤ 20) : v7 o = true := by
 unfold zz at h
 unfold v7
 rw [if_neg h1] at h ⊢
 split
 · rename_i h2; rw [if_pos h2] at h; exact h
 · rename_i h2
   rw [if_neg h2] at h
   split
   · rename_i h3; rw [if_pos h3] at h; exact h
   · rename_i h3
     rw [if_neg h3] at h
     split
     · rename_i h4
       rw [if_pos h4] at h
       simp only [Bool.and_eq_true,decide_eq_true_eq] at h ⊢
       exact ⟨h.1,h.2,he⟩
     · rename_i h4; rw [if_neg h4] at h; exact h
theorem qxt {o : OpC} (h1 : ¬ o.code = 1) (he : ¬ (-20 ≤ o.e ∧ o.e ≤ 20)) : v7 o = false := by
 unfold v7
 rw [if_neg h1]
 split
 · rw [show decide (o.e = 0) = false from decide_eq_false (by omega),Bool.and_false]
 · split
   · rw [show decide (o.b = 0 ∧ o.e = 0) = false from decide_eq_false (by omega),Bool.and_false]
   · split
     · rw [show decide (o.b = 0 ∧ -20 ≤ o.e ∧ o.e ≤ 20) = false from decide_eq_false (by omega),Bool.and_false]
     · rfl
theorem qxu {o : OpC} (h : zz o = true) (h1 : ¬ o.code = 1) : 2 ≤ o.code ∧ o.code ≤ 7 := by
 unfold zz at h
 rw [if_neg h1] at h
 split at h
 · omega
 · split at h
   · omega
   · split at h
     · omega
     · cases h
theorem qxv (code a b e : Int) (neg : Bool) (va vb u : Value) (A B : List Nat) (l : List Nat) {I : Hp} (ha : Ws I va A) (hb : Ws I vb B) (hA : A.length ≤ 3000) (hB : B.length ≤ 3000) (hl : l.length ≤ 1000000) (hl2 : ∀ x ∈ l, x ≤ 200) : Fun prog 24 [.agg #[.int .i64 code, .int .i64 a, .int .i64 b, .int .i64 e, .bool neg, va, vb], u] I [.row u 3 1 l.length (nvs l)]
   (fun v I' B' => I = I' ∧ B' = [.row u 3 1 l.length (nvs l)] ∧ wRT ⟨code,a,b,e,neg,A,B⟩ l v) := by
 have ga := qed hl2 a.toNat
 have gb := qed hl2 b.toNat
 have hda := qda ha.wds hA
 have hdb := qda hb.wds hB
 have hsa := qfv (val A)
 have hsb := qfv (val B)
 intro w hw
 refine qv _ func24 rfl ntmps24 rfl ?_ hw;refine sR ?_;refine qo trivial rfl rfl rfl (fun b2 => ?_);refine oV ?_;refine nS ?_;refine oA isAgg53 sizeOf53 ?_;refine oQ call38 rfl (qxr code a b e neg _ _ _ _ ha hb) ?_;refine oV ?_;refine nU ?_;iterate 2 refine oV ?_
 refine nT ?_;refine cC rfl (fun h1 => ?_) (fun h1 => ?_)
 ·
  have f1 := h1;try simp only [bl] at f1
  have hz : wR ⟨code,a,b,e,neg,A,B⟩ l = none := by unfold wR; rw [qxs f1]; rfl
  refine sR ?_;refine oV ?_;refine nF ?_;refine ret1 rfl rfl ?_;exact leaf (Ext.refl _ _) (List.sublist_cons_self _ _) ⟨rfl,rfl,qjy hz⟩
 have f1 := h1;try simp only [bl] at f1
 refine cK (tC (cS (sR ?_)));refine oF 0 underlying53 sizeOf3 ?_;refine oL isAgg3 ?_;refine oV ?_;refine nT ?_;refine cC rfl (fun h2 => ?_) (fun h2 => ?_)
 ·
  have f2 := h2;try simp only [bl] at f2
  refine sR ?_;refine oF 4 underlying53 sizeOf48 ?_;refine oA isAgg48 sizeOf48 ?_;refine oQ call39 rfl (qot neg _ _ _ _ ha hb hA hB) ?_;refine oV ?_;refine nU ?_;iterate 2 refine oV ?_
  refine' oZ (fun hb20 => ?_) ?_;rotate_left
  ·
   have fb20 := hb20
   try simp only [bl] at fb20
   refine gF hb20 4 underlying53 sizeOf48 ?_;refine gF hb20 1 underlying48 sizeOf46 ?_;refine gL hb20 isAgg46 ?_;refine yy (wS rfl rfl hb20) rfl call40 rfl (qhh _ _ ha (by omega)) ?_;refine qau (wS rfl rfl hb20) rfl underlying9 rfl ?_;refine gV hb20 ?_;refine oN ?_;exact qa rfl
  refine' oZ (fun hb28 => ?_) ?_;rotate_left
  ·
   have fb28 := hb28
   try simp only [bl] at fb28
   refine gF hb28 4 underlying53 sizeOf48 ?_;refine gF hb28 2 underlying48 sizeOf46 ?_;refine gL hb28 isAgg46 ?_;refine yy (wS rfl rfl hb28) rfl call40 rfl (qhh _ _ hb (by omega)) ?_;refine qau (wS rfl rfl hb28) rfl underlying9 rfl ?_;refine gV hb28 ?_;refine oN ?_;exact qa rfl
  refine nT ?_;refine cC rfl (fun h3 => ?_) (fun h3 => ?_)
  ·
   have f3 := h3;try simp only [bl] at f3
   have hz : wR ⟨code,a,b,e,neg,A,B⟩ l = none := by
     unfold wR
     rw [qo0 f2,f1,Bool.and_true]
     unfold yf
     dsimp only
     rcases f3 with (f3 | f3) | f3
     · rw [f3]; rfl
     · rw [show decide ((digs (val A)).length ≤ 40) = false from decide_eq_false (by omega),Bool.and_false,Bool.false_and]; rfl
     · rw [show decide ((digs (val B)).length ≤ 40) = false from decide_eq_false (by omega),Bool.and_false]; rfl
   refine sR ?_;refine oV ?_;refine oN (tC (cT (tR (tR ?_))));refine ret1 rfl rfl ?_;exact leaf (Ext.refl _ _) (List.sublist_cons_self _ _) ⟨rfl,rfl,qjy hz⟩
  have f3 := h3;try simp only [bl] at f3
  have hz : wR ⟨code,a,b,e,neg,A,B⟩ l = some 1 := by
    unfold wR
    rw [qo0 f2,f1,Bool.and_true]
    unfold yf
    dsimp only
    obtain ⟨⟨k1,k2⟩,k3⟩ := f3
    rw [k1,show decide ((digs (val A)).length ≤ 40) = true from decide_eq_true (by omega),show decide ((digs (val B)).length ≤ 40) = true from decide_eq_true (by omega)]
    show wgt ⟨code,a,b,e,neg,A,B⟩ l = some 1
    exact if_pos f2
  refine kS ?_;refine oV ?_;refine nF ?_;refine ret1 rfl rfl ?_;exact leaf (Ext.refl _ _) (List.sublist_cons_self _ _) ⟨rfl,rfl,1,rfl,fun k hk => by rw [hz] at hk; cases hk; rfl,fun hk => by rw [hz] at hk; cases hk⟩
 have f2 := h2;try simp only [bl] at f2
 refine cK (tC (cS (sR ?_)));refine oF 1 underlying53 sizeOf3 ?_;refine oL isAgg3 ?_;refine oV ?_;refine' oZ (fun hb39 => ?_) ?_;rotate_left
 ·
  have fb39 := hb39
  try simp only [bl] at fb39
  refine gF hb39 1 underlying53 sizeOf3 ?_;refine gL hb39 isAgg3 ?_;refine gV hb39 ?_;refine yi (wS rfl rfl hb39) rfl underlying32 rfl (by repeat constructor) ?_;refine gV hb39 ?_;refine oN ?_;exact qa rfl
 refine' oZ (fun hb46 => ?_) ?_;rotate_left
 ·
  have fb46 := hb46
  try simp only [bl] at fb46
  refine gF hb46 2 underlying53 sizeOf3 ?_;refine gL hb46 isAgg3 ?_;refine gV hb46 ?_;refine oN ?_;exact qa rfl
 refine' oZ (fun hb51 => ?_) ?_;rotate_left
 ·
  have fb51 := hb51
  try simp only [bl] at fb51
  refine gF hb51 2 underlying53 sizeOf3 ?_;refine gL hb51 isAgg3 ?_;refine gV hb51 ?_;refine yi (wS rfl rfl hb51) rfl underlying32 rfl (by repeat constructor) ?_;refine gV hb51 ?_;refine oN ?_;exact qa rfl
 refine' oZ (fun hb58 => ?_) ?_;rotate_left
 ·
  have fb58 := hb58
  try simp only [bl] at fb58
  refine gF hb58 3 underlying53 sizeOf3 ?_;refine gL hb58 isAgg3 ?_;refine gV hb58 ?_;refine oN ?_;exact qa rfl
 refine' oZ (fun hb63 => ?_) ?_;rotate_left
 ·
  have fb63 := hb63
  try simp only [bl] at fb63
  refine gF hb63 3 underlying53 sizeOf3 ?_;refine gL hb63 isAgg3 ?_;refine gV hb63 ?_;refine oN ?_;exact qa rfl
 refine nT ?_;refine cC rfl (fun h4 => ?_) (fun h4 => ?_)
 ·
  have f4 := h4;try simp only [bl] at f4
  have hz : wR ⟨code,a,b,e,neg,A,B⟩ l = none := by
    unfold wR
    by_cases he : -20 ≤ e ∧ e ≤ 20
    · rw [qo1 f2 f1 he]
      unfold wgt
      dsimp only
      have n2 : a < 0 ∨ (l.length : Int) ≤ a ∨ b < 0 ∨ (l.length : Int) ≤ b := by omega
      rw [if_neg f2,if_pos n2]; rfl
    · rw [qxt (o := ⟨code,a,b,e,neg,A,B⟩) f2 he]; rfl
  refine sR ?_;refine oV ?_;refine nF ?_;refine ret1 rfl rfl ?_;exact leaf (Ext.refl _ _) (List.sublist_cons_self _ _) ⟨rfl,rfl,qjy hz⟩
 have f4 := h4;try simp only [bl] at f4
 have hcd := qxu (o := ⟨code,a,b,e,neg,A,B⟩) f1 f2
 have he : -20 ≤ e ∧ e ≤ 20 := by omega
 have n2 : ¬ (a < 0 ∨ (l.length : Int) ≤ a ∨ b < 0 ∨ (l.length : Int) ≤ b) := by omega
 have hwr : wR ⟨code,a,b,e,neg,A,B⟩ l = if wgtM ⟨code,a,b,e,neg,A,B⟩ l ≤ 200 then some (wgtM ⟨code,a,b,e,neg,A,B⟩ l) else none := by
   unfold wR
   rw [qo1 f2 f1 he]
   unfold wgt
   dsimp only
   rw [if_neg f2,if_neg n2]; rfl
 have hm20 : l.getD a.toNat 0 * max 1 e.natAbs ≤ 200 * 20 := Nat.mul_le_mul ga (by omega)
 refine kS ?_;refine oV ?_;refine oF 1 underlying53 sizeOf3 ?_;refine oL isAgg3 ?_;refine yp trivial rfl underlying32 sizeOf3 rfl (by repeat constructor) rfl (by omega) ?_;refine jl trivial rfl isAgg3 (by repeat constructor) rfl (by rw [Nat.mul_one]; exact qbm (by omega)) ?_;refine oV ?_;refine nU ?_;refine oF 0 underlying53 sizeOf3 ?_;refine oL isAgg3 ?_;refine oV ?_;refine nT ?_;refine cC rfl (fun h5 => ?_) (fun h5 => ?_)
 ·
  have f5 := h5;try simp only [bl] at f5
  refine cR ?_;iterate 2 refine oV ?_
  refine oF 2 underlying53 sizeOf3 ?_;refine oL isAgg3 ?_;refine yp trivial rfl underlying32 sizeOf3 rfl (by repeat constructor) rfl (by omega) ?_;refine jl trivial rfl isAgg3 (by repeat constructor) rfl (by rw [Nat.mul_one]; exact qbm (by omega)) ?_
  (refine qf trivial rfl rfl rfl ?_ ?_; (omega))
  refine oV ?_;refine nU ?_;refine oF 0 underlying53 sizeOf3 ?_;refine oL isAgg3 ?_;refine oV ?_;refine' oY (fun hb86 => ?_) ?_;rotate_left
  ·
   have fb86 := hb86
   try simp only [bl] at fb86
   refine gF hb86 3 underlying53 sizeOf3 ?_;refine gL hb86 isAgg3 ?_;refine gV hb86 ?_;refine oN ?_;exact qa rfl
  refine nT ?_;refine cC rfl (fun h6 => ?_) (fun h6 => ?_)
  ·
   have f6 := h6;try simp only [bl] at f6
   refine cR ?_;refine oV ?_;refine oF 3 underlying53 sizeOf3 ?_;refine oL isAgg3 ?_;refine oV ?_
   (refine zi trivial rfl rfl rfl ?_ ?_; (omega))
   refine oV ?_;refine nU ?_;refine oF 0 underlying53 sizeOf3 ?_;refine oL isAgg3 ?_;refine oV ?_;refine' oY (fun hb99 => ?_) ?_;rotate_left
   ·
    have fb99 := hb99
    try simp only [bl] at fb99
    refine gF hb99 3 underlying53 sizeOf3 ?_;refine gL hb99 isAgg3 ?_;refine gV hb99 ?_;refine oN ?_;exact qa rfl
   refine nT ?_;refine cC rfl (fun h7 => ?_) (fun h7 => ?_)
   ·
    have f7 := h7;try simp only [bl] at f7
    refine cR ?_;refine oV ?_;refine oF 3 underlying53 sizeOf3 ?_;refine oL isAgg3 ?_
    (refine zi trivial rfl rfl rfl ?_ ?_; (omega))
    refine oV ?_;refine nS ?_;iterate 2 refine oV ?_
    refine nE ?_;refine ret1 rfl rfl ?_;refine leaf (Ext.refl _ _) (List.sublist_cons_self _ _) ⟨rfl,rfl,qct hwr ?_⟩
    unfold wgtM
    dsimp only at hcd ⊢
    (exfalso; omega)
   have f7 := h7;try simp only [bl] at f7
   refine kS ?_;iterate 2 refine oV ?_
   refine nE ?_;refine ret1 rfl rfl ?_;refine leaf (Ext.refl _ _) (List.sublist_cons_self _ _) ⟨rfl,rfl,qct hwr ?_⟩
   unfold wgtM
   dsimp only at hcd ⊢
   (exfalso; omega)
  have f6 := h6;try simp only [bl] at f6
  refine cK (tC (cS (sR ?_)));refine oF 0 underlying53 sizeOf3 ?_;refine oL isAgg3 ?_;refine oV ?_;refine' oY (fun hb99 => ?_) ?_;rotate_left
  ·
   have fb99 := hb99
   try simp only [bl] at fb99
   refine gF hb99 3 underlying53 sizeOf3 ?_;refine gL hb99 isAgg3 ?_;refine gV hb99 ?_;refine oN ?_;exact qa rfl
  refine nT ?_;refine cC rfl (fun h7 => ?_) (fun h7 => ?_)
  ·
   have f7 := h7;try simp only [bl] at f7
   refine cR ?_;refine oV ?_;refine oF 3 underlying53 sizeOf3 ?_;refine oL isAgg3 ?_
   (refine zi trivial rfl rfl rfl ?_ ?_; (omega))
   refine oV ?_;refine nS ?_;iterate 2 refine oV ?_
   refine nE ?_;refine ret1 rfl rfl ?_;refine leaf (Ext.refl _ _) (List.sublist_cons_self _ _) ⟨rfl,rfl,qct hwr ?_⟩
   unfold wgtM
   dsimp only at hcd ⊢
   (exfalso; omega)
  have f7 := h7;try simp only [bl] at f7
  refine kS ?_;iterate 2 refine oV ?_
  refine nE ?_;refine ret1 rfl rfl ?_;refine leaf (Ext.refl _ _) (List.sublist_cons_self _ _) ⟨rfl,rfl,qct hwr ?_⟩
  unfold wgtM
  dsimp only at hcd ⊢
  (rw [if_pos (show 2 ≤ code ∧ code ≤ 5 by omega)]; rfl)
 have f5 := h5;try simp only [bl] at f5
 refine cK (tC (cS (sR ?_)));refine oF 0 underlying53 sizeOf3 ?_;refine oL isAgg3 ?_;refine oV ?_;refine' oY (fun hb86 => ?_) ?_;rotate_left
 ·
  have fb86 := hb86
  try simp only [bl] at fb86
  refine gF hb86 3 underlying53 sizeOf3 ?_;refine gL hb86 isAgg3 ?_;refine gV hb86 ?_;refine oN ?_;exact qa rfl
 refine nT ?_;refine cC rfl (fun h6 => ?_) (fun h6 => ?_)
 ·
  have f6 := h6;try simp only [bl] at f6
  refine cR ?_;refine oV ?_;refine oF 3 underlying53 sizeOf3 ?_;refine oL isAgg3 ?_;refine oV ?_;refine oV ?_;refine oV ?_;refine nU ?_;refine oF 0 underlying53 sizeOf3 ?_;refine oL isAgg3 ?_;refine oV ?_;refine' oY (fun hb99 => ?_) ?_;rotate_left
  ·
   have fb99 := hb99
   try simp only [bl] at fb99
   refine gF hb99 3 underlying53 sizeOf3 ?_;refine gL hb99 isAgg3 ?_;refine gV hb99 ?_;refine oN ?_;exact qa rfl
  refine nT ?_;refine cC rfl (fun h7 => ?_) (fun h7 => ?_)
  ·
   have f7 := h7;try simp only [bl] at f7
   refine cR ?_;refine oV ?_;refine oF 3 underlying53 sizeOf3 ?_;refine oL isAgg3 ?_
   (refine zi trivial rfl rfl rfl ?_ ?_; (omega))
   refine oV ?_;refine nS ?_;iterate 2 refine oV ?_
   refine nE ?_;refine ret1 rfl rfl ?_;refine leaf (Ext.refl _ _) (List.sublist_cons_self _ _) ⟨rfl,rfl,qct hwr ?_⟩
   unfold wgtM
   dsimp only at hcd ⊢
   (exfalso; omega)
  have f7 := h7;try simp only [bl] at f7
  refine kS ?_;iterate 2 refine oV ?_
  refine nE ?_;refine ret1 rfl rfl ?_;refine leaf (Ext.refl _ _) (List.sublist_cons_self _ _) ⟨rfl,rfl,qct hwr ?_⟩
  unfold wgtM
  dsimp only at hcd ⊢
  (have h7 : code = 7 := f6.1
   have he0 := f6.2
   rw [if_neg (show ¬ (2 ≤ code ∧ code ≤ 5) by omega),if_pos h7,Nat.max_eq_right (show 1 ≤ e.natAbs by omega)] at *
   rw [show IntKind.i64.wrap (0 - e) = ((e.natAbs : Nat) : Int) by rw [IntWalk.i64_in _ (by omega)]; omega,← Int.natCast_mul,IntWalk.i64_in _ (by omega)])
 have f6 := h6;try simp only [bl] at f6
 refine cK (tC (cS (sR ?_)));refine oF 0 underlying53 sizeOf3 ?_;refine oL isAgg3 ?_;refine oV ?_;refine' oY (fun hb99 => ?_) ?_;rotate_left
 ·
  have fb99 := hb99
  try simp only [bl] at fb99
  refine gF hb99 3 underlying53 sizeOf3 ?_;refine gL hb99 isAgg3 ?_;refine gV hb99 ?_;refine oN ?_;exact qa rfl
 refine nT ?_;refine cC rfl (fun h7 => ?_) (fun h7 => ?_)
 ·
  have f7 := h7;try simp only [bl] at f7
  refine cR ?_;refine oV ?_;refine oF 3 underlying53 sizeOf3 ?_;refine oL isAgg3 ?_;refine oV ?_;refine oV ?_;refine nS ?_;iterate 2 refine oV ?_
  refine nE ?_;refine ret1 rfl rfl ?_;refine leaf (Ext.refl _ _) (List.sublist_cons_self _ _) ⟨rfl,rfl,qct hwr ?_⟩
  unfold wgtM
  dsimp only at hcd ⊢
  (have h7 : code = 7 := f7.1
   have he0 := f7.2
   rw [if_neg (show ¬ (2 ≤ code ∧ code ≤ 5) by omega),if_pos h7]
   have hmx : max 1 e.natAbs = e.natAbs := Nat.max_eq_right (show 1 ≤ e.natAbs by omega)
   rw [hmx] at hm20 ⊢
   have he1 : (l.getD a.toNat 0 : Int) * e = ((l.getD a.toNat 0 * e.natAbs : Nat) : Int) := by rw [Int.natCast_mul]; congr 1; omega
   rw [he1,IntWalk.i64_in _ (by omega)])
 have f7 := h7;try simp only [bl] at f7
 refine kS ?_;iterate 2 refine oV ?_
 refine nE ?_;refine ret1 rfl rfl ?_;refine leaf (Ext.refl _ _) (List.sublist_cons_self _ _) ⟨rfl,rfl,qct hwr ?_⟩
 unfold wgtM
 dsimp only at hcd ⊢
 (by_cases h7 : code = 7
  · have he0 : e = 0 := by omega
    rw [if_neg (show ¬ (2 ≤ code ∧ code ≤ 5) by omega),if_pos h7,he0]
    show _ = ((_ * 1 : Nat) : Int)
    rw [Nat.mul_one]
  · rw [if_neg (show ¬ (2 ≤ code ∧ code ≤ 5) by omega),if_neg h7])
def nls (l : List Nat) : List (List Value) := l.map fun (x : Nat) => [Value.int .i64 (x : Int)]
theorem qjz (l : List Nat) : (nls l).length = l.length := by simp [nls]
theorem qxw {ops : List OpC} {i : Nat} {o : OpC} (h : ops[i]? = some o) (l : List Nat) : wgts (ops.drop i) l = match wR o l with | some m => wgts (ops.drop (i + 1)) (l ++ [m]) | none => none := by
 rw [qn7 h]
 unfold wR
 cases v7 o <;> rfl
theorem qo2 (t : yr) (vo vu : Value) (os : List OpV) {I : Hp} (ht : ji I vo vu t os) (hf : ∀ o ∈ t.ops,OpC.few 3000 o) : Fun prog 7 [.agg #[.int .i64 t.ins,vo,vu]] I [] (fun v I' _ => Slc I' 1 v (nls ((vw t).getD []))) := by
 have hol : os.length = t.ops.length := by rw [← ht.eq,List.length_map]
 have hoc : ∀ {i : Nat} {o : OpV},os[i]? = some o → t.ops[i]? = some o.c := fun {i o} h => by rw [← ht.eq,List.getElem?_map,h]; rfl
 have hso := ht.so
 have hsu := ht.su
 intro w hw
 refine q9 _ func7 rfl ntmps7 rfl ?_ hw;refine sR ?_;refine qo trivial rfl rfl rfl (fun b1 => ?_);refine oV ?_;refine nU ?_;refine oF 0 underlying34 sizeOf3 ?_
 have hul := qcm t.outs
 have hml : (os.map OpV.cells).length = t.ops.length := by rw [List.length_map,hol]
 refine oL isAgg3 ?_;refine oV ?_;refine' oZ (fun hb11 => ?_) ?_;rotate_left
 ·
  have fb11 := hb11
  try simp only [bl] at fb11
  refine gF hb11 0 underlying34 sizeOf3 ?_;refine gL hb11 isAgg3 ?_;refine gV hb11 ?_;refine oN ?_;exact qa rfl
 refine' oZ (fun hb16 => ?_) ?_;rotate_left
 ·
  have fb16 := hb16
  try simp only [bl] at fb16
  refine gF hb16 2 underlying34 sizeOf32 ?_;refine gL hb16 isAgg32 ?_;refine qw (wS rfl rfl hb16) rfl underlying32 rfl (hsu) ?_;refine gV hb16 ?_;refine oN ?_;exact qa rfl
 refine' oZ (fun hb22 => ?_) ?_;rotate_left
 ·
  have fb22 := hb22
  try simp only [bl] at fb22
  refine gF hb22 2 underlying34 sizeOf32 ?_;refine gL hb22 isAgg32 ?_;refine qw (wS rfl rfl hb22) rfl underlying32 rfl (hsu) ?_;refine gV hb22 ?_;refine oN ?_;exact qa rfl
 refine' oZ (fun hb28 => ?_) ?_;rotate_left
 ·
  have fb28 := hb28
  try simp only [bl] at fb28
  refine gF hb28 1 underlying34 sizeOf31 ?_;refine gL hb28 isAgg31 ?_;refine qw (wS rfl rfl hb28) rfl underlying31 rfl (hso) ?_;refine gV hb28 ?_;refine oN ?_;exact qa rfl
 refine nT ?_;refine cC rfl (fun h1 => ?_) (fun h1 => ?_)
 ·
  have f1 := h1;try simp only [bl] at f1
  have hno : vw t = none := by unfold vw; rw [if_pos (by omega)]
  refine sR ?_;refine oV ?_;refine nF ?_;refine ret1 rfl rfl ?_;refine qg ?_; rw [hno]; exact Slc.nil _ _
 have f1 := h1;try simp only [bl] at f1
 have hgd : ¬ (t.ins < 1 ∨ 40 < t.ins ∨ t.outs.length < 1 ∨ 40 < t.outs.length ∨ 400 < t.ops.length) := by omega
 refine kS ?_;refine oV ?_;refine nU ?_;refine oV ?_;refine oN (tC (cB ?_));refine qu (ι := Nat × Value) [1] (.cons rfl .nil) (fun x => t.ins.toNat - x.1) (fun x E0 => (3,x.2) :: (4,.int .i64 (x.1 : Int)) :: E0) (fun x => St w [] I [.row x.2 3 1 x.1 (nvs (List.replicate x.1 1)),.box b1 (.cells ([.int .i64 t.ins,vo,vu] : List Value).toArray 34 (0,0))]) (fun x => x.1 ≤ t.ins.toNat) ((0,.slice none 0 0)) (sC rfl (sC rfl (sC rfl sN))) (fun _ h => h.nilRow _ _) (Nat.zero_le _) ?_;rintro ⟨i,u⟩ hi
 try dsimp only
 simp only at hi
 refine cS (sR ?_);refine oV ?_;refine oF 0 underlying34 sizeOf3 ?_;refine oL isAgg3 ?_;refine oV ?_;refine nT ?_;refine cC rfl (fun h2 => ?_) (fun h2 => ?_)
 ·
  have f2 := h2;try simp only [bl] at f2
  refine cK (tC (cS (cB (cR ?_))));refine oV ?_;refine oB underlying32 sizeOf3 zeroValue3 fun b41 => ?_;refine oD underlying32 vp fun v42 => ?_;refine oV ?_;refine oN (qe (tC (cR ?_)));refine oV ?_
  (refine qf trivial rfl rfl rfl ?_ ?_; (omega))
  refine oV ?_;refine oN ?_;exact qj (i + 1,v42) (sC rfl (sC rfl (sC rfl sN))) (fun _ h => by rw [← qn8]; exact h.sort (by repeat constructor)) (by show t.ins.toNat - (i + 1) < t.ins.toNat - i; omega) (by show i + 1 ≤ _; omega)
 have f2 := h2;try simp only [bl] at f2
 refine qq (qc (qc (qp rfl (tC (cS (cS ?_))))))
 have hin : i = t.ins.toNat := by omega
 subst hin
 refine cR ?_;refine oV ?_;refine oN (tC (cB ?_));refine qu (ι := Nat × List Nat × Value) [1] (.cons rfl .nil) (fun x => t.ops.length - x.1) (fun x E0 => (3,x.2.2) :: (5,.int .i64 (x.1 : Int)) :: E0) (fun x => St w [] I [.row x.2.2 3 1 x.2.1.length (nvs x.2.1),.box b1 (.cells ([.int .i64 t.ins,vo,vu] : List Value).toArray 34 (0,0))]) (fun x => x.1 ≤ t.ops.length ∧ x.2.1.length = t.ins.toNat + x.1 ∧ (∀ y ∈ x.2.1,y ≤ 200) ∧ wgts t.ops (List.replicate t.ins.toNat 1) = wgts (t.ops.drop x.1) x.2.1) ((0,List.replicate t.ins.toNat 1,u)) (sC rfl (sC rfl (sC rfl sN))) (fun _ h => by rw [List.length_replicate]; exact h) (⟨Nat.zero_le _,by rw [List.length_replicate]; rfl,fun y hy => by rw [(List.mem_replicate.1 hy).2]; decide,rfl⟩) ?_;rintro ⟨i,l,u⟩ ⟨hi,hll,hl2,hW⟩
 try dsimp only
 simp only at hi hll hl2 hW
 refine cS (sR ?_);refine oV ?_;refine oF 1 underlying34 sizeOf31 ?_;refine oL isAgg31 ?_;refine qw trivial rfl underlying31 rfl (hso) ?_;refine oV ?_;refine nT ?_;refine cC rfl (fun h3 => ?_) (fun h3 => ?_)
 ·
  have f3 := h3;try simp only [bl] at f3
  have hio : i < os.length := by omega
  obtain ⟨o,ho⟩ : ∃ o,os[i]? = some o := ⟨os[i],List.getElem?_eq_getElem hio⟩
  obtain ⟨hvn,hvd⟩ := ht.ok o (List.mem_of_getElem? ho)
  have hto := hoc ho
  have hfo := hf o.c (List.mem_of_getElem? hto)
  rw [qxw hto] at hW
  refine cK (tC (cS (cB (sR ?_))));refine oF 1 underlying34 sizeOf31 ?_;refine oL isAgg31 ?_;refine oV ?_;refine vk trivial rfl underlying31 sizeOf53 rfl (hso) rfl (by omega) ?_;refine y7 trivial rfl isAgg53 sizeOf53 rfl rfl (OpV.at_ ht ho) ?_;refine oV ?_;refine oC trivial rfl call24 rfl (qxv o.c.code o.c.a o.c.b o.c.e o.c.neg o.vn o.vd u o.c.n o.c.d l hvn hvd hfo.1 hfo.2 (by omega) hl2) (by repeat constructor) ?_;rintro _ _ _ hx2 ⟨rfl,rfl,m,rfl,hm1,hm2⟩;refine oV ?_;refine nU ?_;iterate 2 refine oV ?_
  refine' oZ (fun hb59 => ?_) ?_;rotate_left
  ·
   iterate 2 refine gV hb59 ?_
   refine oN ?_;exact qa rfl
  refine nT ?_;refine cC rfl (fun h4 => ?_) (fun h4 => ?_)
  ·
   have f4 := h4;try simp only [bl] at f4
   have hw5 : wR o.c l = none := by
     cases hc : wR o.c l with
     | none => rfl
     | some k =>
       have h1 := hm1 k hc
       have h2 : k ≤ 200 := by
         unfold wR at hc
         split at hc
         · exact qn6 hc
         · cases hc
       omega
   have hno : vw t = none := by unfold vw; rw [if_neg hgd,hW,hw5]
   refine sR ?_;refine oV ?_;refine oN (tC (cT (tR (qd (tR (tR (qd (tR ?_))))))));refine ret1 rfl rfl ?_;refine leaf (Ext.refl _ _) (List.nil_sublist _) ?_; rw [hno]; exact Slc.nil _ _
  have f4 := h4;try simp only [bl] at f4
  obtain ⟨k,hk⟩ : ∃ k,wR o.c l = some k := by
    cases hc : wR o.c l with
    | none => have := hm2 hc; omega
    | some k => exact ⟨k,rfl⟩
  rw [hk] at hW
  have hmk := hm1 k hk
  subst hmk
  refine cK (tC (cR ?_));iterate 2 refine oV ?_
  refine oB underlying32 sizeOf3 zeroValue3 fun b65 => ?_;refine oD underlying32 vp fun v66 => ?_;refine oV ?_;refine oN (qe (tC (cR ?_)));refine oV ?_
  (refine qf trivial rfl rfl rfl ?_ ?_; (omega))
  refine oV ?_;refine oN ?_
  exact qj (i + 1, l ++ [k], v66) (sC rfl (sC rfl (sC rfl sN))) (fun _ h => by rw [← qhd, List.length_append]; exact h.sort (by repeat constructor)) (by show t.ops.length - (i + 1) < t.ops.length - i; omega) ⟨by show i + 1 ≤ _; omega, by simp only [List.length_append, List.length_cons, List.length_nil]; omega, by
    intro y hy
    rcases List.mem_append.1 hy with hy | hy
    · exact hl2 y hy
    · rw [List.mem_singleton.1 hy]; omega,hW⟩
 have f3 := h3;try simp only [bl] at f3
 refine qq (qc (qc (qp rfl (tC (cS (cS ?_))))))
 have hio : i = t.ops.length := by omega
 subst hio
 rw [List.drop_length] at hW
 refine cR ?_;refine oV ?_;refine oN (tC (cB ?_));refine qu (ι := Nat) [1,3] (.cons rfl (.cons rfl .nil)) (fun x => t.outs.length - x) (fun x E0 => (7,.int .i64 (x : Int)) :: E0) (fun x => St w [] I [.row u 3 1 l.length (nvs l),.box b1 (.cells ([.int .i64 t.ins,vo,vu] : List Value).toArray 34 (0,0))]) (fun x => x ≤ t.outs.length ∧ ((t.outs.take x).all fun z => decide (0 ≤ z ∧ z < l.length)) = true) (0) (sC rfl (sC rfl (sC rfl sN))) (fun _ h => h) (⟨Nat.zero_le _,rfl⟩) ?_;rintro i ⟨hi,hall⟩
 try dsimp only
 refine cS (sR ?_);refine oV ?_;refine oF 2 underlying34 sizeOf32 ?_;refine oL isAgg32 ?_;refine qw trivial rfl underlying32 rfl (hsu) ?_;refine oV ?_;refine nT ?_;refine cC rfl (fun h5 => ?_) (fun h5 => ?_)
 ·
  have f5 := h5;try simp only [bl] at f5
  have hio : i < t.outs.length := by omega
  obtain ⟨z,hz⟩ : ∃ z,t.outs[i]? = some z := ⟨t.outs[i],List.getElem?_eq_getElem hio⟩
  refine cK (tC (cS (cB (sR ?_))));refine oF 2 underlying34 sizeOf32 ?_;refine oL isAgg32 ?_;refine oV ?_;refine vk trivial rfl underlying32 sizeOf3 rfl (hsu) rfl (by omega) ?_;refine q8 trivial rfl isAgg3 rfl (qhe hsu hz) ?_;refine oV ?_;refine' oZ (fun hb80 => ?_) ?_;rotate_left
  ·
   have fb80 := hb80
   try simp only [bl] at fb80
   refine gF hb80 2 underlying34 sizeOf32 ?_;refine gL hb80 isAgg32 ?_;refine gV hb80 ?_;refine vk (wS rfl rfl hb80) rfl underlying32 sizeOf3 rfl (hsu) rfl (by omega) ?_;refine q8 (wS rfl rfl hb80) rfl isAgg3 rfl (qhe hsu hz) ?_;refine gV hb80 ?_;refine yi (wS rfl rfl hb80) rfl underlying32 rfl (by repeat constructor) ?_;refine gV hb80 ?_;refine oN ?_;exact qa rfl
  refine nT ?_;refine cC rfl (fun h6 => ?_) (fun h6 => ?_)
  ·
   have f6 := h6;try simp only [bl] at f6
   have hno : vw t = none := by
     unfold vw; rw [if_neg hgd,hW]
     have hz9 : (t.outs.all fun z => decide (0 ≤ z ∧ z < l.length)) = false := by
       rw [List.all_eq_false]
       exact ⟨z,List.mem_of_getElem? hz,by simp; omega⟩
     show (if (t.outs.all fun z => decide (0 ≤ z ∧ z < l.length)) = true then some l else none) = none
     rw [hz9]; rfl
   refine sR ?_;refine oV ?_;refine oN (tC (cT (qd (tR (tR (qd (tR ?_)))))));refine ret1 rfl rfl ?_;refine leaf (Ext.refl _ _) (List.nil_sublist _) ?_; rw [hno]; exact Slc.nil _ _
  have f6 := h6;try simp only [bl] at f6
  refine cK (qe (tC (cR ?_)));refine oV ?_
  (refine qf trivial rfl rfl rfl ?_ ?_; (omega))
  refine oV ?_;refine oN ?_
  exact qj (i + 1) (sC rfl (sC rfl (sC rfl sN))) (fun _ h => h) (by show t.outs.length - (i + 1) < t.outs.length - i; omega) ⟨by show i + 1 ≤ _; omega, by
    show ((t.outs.take (i + 1)).all _) = true
    rw [List.take_add_one,hz,List.all_append,hall]
    simp; omega⟩
 have f5 := h5;try simp only [bl] at f5
 refine qq (qc (qc (qp rfl (tC (cS ?_)))))
 have hio : i = t.outs.length := by omega
 subst hio
 rw [List.take_length] at hall
 have hyes : vw t = some l := by unfold vw; rw [if_neg hgd,hW]; show (if (t.outs.all fun z => decide (0 ≤ z ∧ z < l.length)) = true then some l else none) = some l; rw [hall]; rfl
 refine cR ?_;iterate 2 refine oV ?_
 refine nE ?_;refine ret1 rfl rfl ?_;exact fun w' hw' => qit (e := 3) (size := 1) (nn := l.length) (u := u) (xss := nls l) (by rw [qjz]) (by intro c hc; obtain ⟨x,_,rfl⟩ := List.mem_map.1 hc; rfl) (by unfold maxLen; omega) (fun I' hl hs' => by rw [hyes]; exact hs') w' (by unfold nls; rw [qjp]; exact hw')
theorem qxx {t : yr} {l : List Nat} (h : vw t = some l) : 0 < l.length := by
 obtain ⟨p1,p2,p3,p4,p5,p6,p7⟩ := qhf h
 have h5 := qjr p6
 rw [List.length_replicate] at h5
 omega
theorem qxy (t : yr) (vo vu : Value) (os : List OpV) {I : Hp} (ht : ji I vo vu t os) (hf : ∀ o ∈ t.ops,OpC.few 3000 o) : Fun prog 23 [.agg #[.int .i64 t.ins,vo,vu]] I [] (fun v _ _ => v = .bool (vw t).isSome) := by
 intro w hw
 refine q9 _ func23 rfl ntmps23 rfl ?_ hw;refine sR ?_;refine qo trivial rfl rfl rfl (fun b1 => ?_);refine oV ?_;refine nS ?_;refine oA isAgg34 sizeOf34 ?_;refine oI call7 rfl (qo2 t vo vu os ht hf) ?_;rintro u I1 hx1 hs1;refine qw trivial rfl underlying32 rfl (hs1) ?_;iterate 2 refine oV ?_
 refine nE ?_;refine ret1 rfl rfl ?_;refine leaf hx1 (List.nil_sublist _) (congrArg Value.bool ?_)
 rw [qjz,Bool.eq_iff_iff,decide_eq_true_eq]
 cases hc : vw t with
 | none => simp
 | some l => have := qxx hc; simp; omega
theorem PtV.one {I : Hp} {b : Nat} {neg : Bool} {n d : List Nat} {vn vd : Value} {T : TypeId} {fz : Nat × Nat} (hb : I b = some (.cells ([.bool neg, vn, vd] ++ [] : List Value).toArray T fz)) (hn : Ws I vn n) (hd : Ws I vd d) : PtV I (.slice (some ⟨b, 0, none⟩) 1 1) [⟨neg, n, d, vn, vd⟩] :=
 ⟨Slc.of_box (xss := [[.bool neg,vn,vd]]) hb (fun c hc => by rw [List.mem_singleton.1 hc]; rfl) (by unfold maxLen; simp) (Nat.le_refl _),fun x hx => by rw [List.mem_singleton.1 hx]; exact ⟨hn,hd⟩⟩
end Go.Proofs.YtoincnplajnpnaaGreat
namespace Go.Tw
open Go
def opP (o : OpC) (p q : Rat) : Option Rat :=
 if o.code = 2 then some (p + q)
 else if o.code = 3 then some (p - q)
 else if o.code = 4 then some (p * q)
 else if o.code = 5 then (if q = 0 then none else some (p / q))
 else if o.code = 6 then some (-p)
 else if o.code = 7 then (if o.e < 0 ∧ p = 0 then none else some (p ^ o.e))
 else some (lowQ o.neg (val o.n) (val o.d))
def opT (r : Option Rat) (I : Hp) (v : Value) : Prop := ∃ s x y X Y,v = .tuple #[.agg #[.bool s,x,y],.int .i64 (if r.isSome then 0 else 3)] ∧ Ws I x X ∧ Ws I y Y ∧ ∀ q,r = some q → s = decide (q.num < 0) ∧ X = natW q.num.natAbs ∧ Y = natW q.den
theorem qcu {q : Rat} {I : Hp} {x y : Value} (h1 : Ws I x (natW q.num.natAbs)) (h2 : Ws I y (natW q.den)) : opT (some q) I (.tuple #[.agg #[.bool (decide (q.num < 0)), x, y], .int .i64 0]) :=
 ⟨_,x,y,_,_,rfl,h1,h2,fun q' h => by cases h; exact ⟨rfl,rfl,rfl⟩⟩
structure qj0 (o : OpC) (l : List Rat) : Prop where
 place : 0 ≤ o.a ∧ o.a < l.length ∧ 0 ≤ o.b ∧ o.b < l.length
 few : ∀ q ∈ l,Few 1400 q
 pow : o.code = 7 → ∃ c,Few c (zth l o.a) ∧ c ≤ 1300 ∧ c * o.e.natAbs ≤ 1300 ∧ -64 ≤ o.e ∧ o.e ≤ 64
 lits : o.n.length ≤ 3000 ∧ o.d.length ≤ 3000
theorem qj0.ok {o : OpC} {l : List Rat} (h : qj0 o l) : OpOK o l :=
 ⟨fun _ _ => h.place,fun q hq => (h.few q hq).le (by decide),fun h7 => let ⟨c,h1,h2,h3,h4⟩ := h.pow h7; ⟨c,h1,by omega,by omega,h4⟩,by have := h.lits; omega⟩
def zf : List OpC → List Rat → Prop
 | [],_ => True
 | o :: r,l => qj0 o l ∧ ∀ q,opR o l = some q → zf r (l ++ [q])
theorem zf.ok : ∀ {ops : List OpC} {l : List Rat}, zf ops l → ze ops l
 | [],l,_ => trivial
 | o :: r,l,h => ⟨h.1.ok,fun q hq => (h.2 q hq).ok⟩
end Go.Tw
namespace Go.Proofs.YtoincnplajnpnaaGreat
open Go Go.Tw
theorem qo3 {e : Prop} [Decidable e] {q : Rat} {r : Option Rat} {I : Hp} {v : Value} (h : okR e q I v) (hr : r = if e then none else some q) : opT r I v := by
 obtain ⟨s,x,y,X,Y,rfl,h2,h3,h4⟩ := h
 subst hr
 by_cases he : e
 · rw [if_pos he,if_pos he]; exact ⟨s,x,y,X,Y,rfl,h2,h3,fun q' h => by cases h⟩
 · rw [if_neg he,if_neg he]; exact ⟨s,x,y,X,Y,rfl,h2,h3,fun q' h => by cases h; exact h4 he⟩
theorem qo4 (code a b e : Int) (neg : Bool) (va vb v1 v2 v3 v4 : Value) (A B : List Nat) (p q : Rat) {I : Hp} (ha : Ws I va A) (hb : Ws I vb B) (g1 : Ws I v1 (natW p.num.natAbs)) (g2 : Ws I v2 (natW p.den)) (g3 : Ws I v3 (natW q.num.natAbs)) (g4 : Ws I v4 (natW q.den))
   (hp : Few 1400 p) (hq : Few 1400 q) (hpow : code = 7 → ∃ c,Few c p ∧ c ≤ 1300 ∧ c * e.natAbs ≤ 1300 ∧ -64 ≤ e ∧ e ≤ 64) (hA : A.length ≤ 3000) (hB : B.length ≤ 3000) :
   Fun prog 44 [.agg #[.int .i64 code,.int .i64 a,.int .i64 b,.int .i64 e,.bool neg,va,vb],.agg #[.bool (decide (p.num < 0)),v1,v2],.agg #[.bool (decide (q.num < 0)),v3,v4]] I [] (fun v I' _ => opT (opP ⟨code,a,b,e,neg,A,B⟩ p q) I' v) := by
 intro w hw
 refine j5 _ func44 rfl ntmps44 rfl ?_ hw;refine sR ?_;refine qo trivial rfl rfl rfl (fun b3 => ?_);refine qo trivial rfl rfl rfl (fun b4 => ?_);refine qo trivial rfl rfl rfl (fun b5 => ?_);refine qh trivial rfl zeroValue48 rfl (fun b6 => ?_);refine oV ?_;refine nU ?_;refine oF 0 underlying53 sizeOf3 ?_;refine oL isAgg3 ?_;refine oN (tC (cB (sR ?_)));iterate 2 refine oV ?_
 refine nT ?_;refine cC rfl (fun h1 => ?_) (fun h1 => ?_)
 ·
  have f1 := h1;try simp only [bl] at f1
  have hr : opP ⟨code,a,b,e,neg,A,B⟩ p q = some (p + q) := by unfold opP; rw [if_pos f1]
  refine sR ?_;iterate 2 refine oA isAgg48 sizeOf48 ?_
  refine oI call63 rfl (qow p q _ _ _ _ g1 g2 g3 g4 hp hq) ?_;rintro _ I1 hx1 ⟨u1,u2,rfl,k1,k2⟩;refine oS sizeOf48 ?_;refine oV ?_;refine oN (tC (cT (qd (tR ?_))));refine retR rfl (.agg isAgg48 sizeOf48 rfl (by repeat constructor) rfl (.tmp rfl .nil)) ?_;refine leaf hx1 (List.nil_sublist _) ?_; rw [hr]; exact qcu k1 k2
 have f1 := h1;try simp only [bl] at f1
 refine sR ?_;iterate 2 refine oV ?_
 refine nT ?_;refine cC rfl (fun h2 => ?_) (fun h2 => ?_)
 ·
  have f2 := h2;try simp only [bl] at f2
  have hr : opP ⟨code,a,b,e,neg,A,B⟩ p q = some (p - q) := by unfold opP; rw [if_neg f1,if_pos f2]
  refine sR ?_;iterate 2 refine oA isAgg48 sizeOf48 ?_
  refine oI call64 rfl (qxk p q _ _ _ _ g1 g2 g3 g4 hp hq) ?_;rintro _ I1 hx1 ⟨u1,u2,rfl,k1,k2⟩;refine oS sizeOf48 ?_;refine oV ?_;refine oN (tC (cT (qd (tR ?_))));refine retR rfl (.agg isAgg48 sizeOf48 rfl (by repeat constructor) rfl (.tmp rfl .nil)) ?_;refine leaf hx1 (List.nil_sublist _) ?_; rw [hr]; exact qcu k1 k2
 have f2 := h2;try simp only [bl] at f2
 refine sR ?_;iterate 2 refine oV ?_
 refine nT ?_;refine cC rfl (fun h3 => ?_) (fun h3 => ?_)
 ·
  have f3 := h3;try simp only [bl] at f3
  have hr : opP ⟨code,a,b,e,neg,A,B⟩ p q = some (p * q) := by unfold opP; rw [if_neg f1,if_neg f2,if_pos f3]
  refine sR ?_;iterate 2 refine oA isAgg48 sizeOf48 ?_
  refine oI call65 rfl (qju p q _ _ _ _ g1 g2 g3 g4 hp hq) ?_;rintro _ I1 hx1 ⟨u1,u2,rfl,k1,k2⟩;refine oS sizeOf48 ?_;refine oV ?_;refine oN (tC (cT (qd (tR ?_))));refine retR rfl (.agg isAgg48 sizeOf48 rfl (by repeat constructor) rfl (.tmp rfl .nil)) ?_;refine leaf hx1 (List.nil_sublist _) ?_; rw [hr]; exact qcu k1 k2
 have f3 := h3;try simp only [bl] at f3
 refine sR ?_;iterate 2 refine oV ?_
 refine nT ?_;refine cC rfl (fun h4 => ?_) (fun h4 => ?_)
 ·
  have f4 := h4;try simp only [bl] at f4
  have hr : opP ⟨code,a,b,e,neg,A,B⟩ p q = if q = 0 then none else some (p / q) := by unfold opP; rw [if_neg f1,if_neg f2,if_neg f3,if_pos f4]
  refine sR ?_;iterate 2 refine oA isAgg48 sizeOf48 ?_
  refine oI call66 rfl (qxn p q _ _ _ _ g1 g2 g3 g4 hp hq) ?_;rintro _ I1 hx1 ⟨s1,u1,u2,X1,X2,rfl,k1,k2,k3⟩;iterate 2 refine oV ?_
  refine oS sizeOf48 ?_;refine oV ?_;refine oN (tC (cT (qd (tR ?_))));refine retR rfl (.agg isAgg48 sizeOf48 rfl (by repeat constructor) rfl (.tmp rfl .nil)) ?_;exact leaf hx1 (List.nil_sublist _) (qo3 ⟨s1,u1,u2,X1,X2,rfl,k1,k2,k3⟩ hr)
 have f4 := h4;try simp only [bl] at f4
 refine sR ?_;iterate 2 refine oV ?_
 refine nT ?_;refine cC rfl (fun h5 => ?_) (fun h5 => ?_)
 ·
  have f5 := h5;try simp only [bl] at f5
  have hr : opP ⟨code,a,b,e,neg,A,B⟩ p q = some (-p) := by unfold opP; rw [if_neg f1,if_neg f2,if_neg f3,if_neg f4,if_pos f5]
  refine sR ?_;refine oA isAgg48 sizeOf48 ?_;refine oI call67 rfl (qox p _ _ g1 g2 (hp.le (by decide))) ?_;rintro _ I1 hx1 ⟨u1,u2,rfl,k1,k2⟩;refine oS sizeOf48 ?_;refine oV ?_;refine oN (tC (cT (qd (tR ?_))));refine retR rfl (.agg isAgg48 sizeOf48 rfl (by repeat constructor) rfl (.tmp rfl .nil)) ?_;refine leaf hx1 (List.nil_sublist _) ?_; rw [hr]; exact qcu k1 k2
 have f5 := h5;try simp only [bl] at f5
 refine sR ?_;iterate 2 refine oV ?_
 refine nT ?_;refine cC rfl (fun h6 => ?_) (fun h6 => ?_)
 ·
  have f6 := h6;try simp only [bl] at f6
  have hr : opP ⟨code,a,b,e,neg,A,B⟩ p q = if e < 0 ∧ p = 0 then none else some (p ^ e) := by unfold opP; rw [if_neg f1,if_neg f2,if_neg f3,if_neg f4,if_neg f5,if_pos f6]
  obtain ⟨c,hc1,hc2,hc3,hc4⟩ := hpow f6
  refine sR ?_;refine oA isAgg48 sizeOf48 ?_;refine oF 3 underlying53 sizeOf3 ?_;refine oL isAgg3 ?_;refine oI call68 rfl (qxo p e _ _ g1 g2 hc1 hc4 hc2 hc3) ?_;rintro _ I1 hx1 ⟨s1,u1,u2,X1,X2,rfl,k1,k2,k3⟩;iterate 2 refine oV ?_
  refine oS sizeOf48 ?_;refine oV ?_;refine oN (tC (cT (qd (tR ?_))));refine retR rfl (.agg isAgg48 sizeOf48 rfl (by repeat constructor) rfl (.tmp rfl .nil)) ?_;exact leaf hx1 (List.nil_sublist _) (qo3 ⟨s1,u1,u2,X1,X2,rfl,k1,k2,k3⟩ hr)
 have f6 := h6;try simp only [bl] at f6
 have hr : opP ⟨code,a,b,e,neg,A,B⟩ p q = some (lowQ neg (val A) (val B)) := by unfold opP; rw [if_neg f1,if_neg f2,if_neg f3,if_neg f4,if_neg f5,if_neg f6]
 refine cK (qe (tC (sR ?_)));refine oF 4 underlying53 sizeOf48 ?_;refine oA isAgg48 sizeOf48 ?_;refine oI call43 rfl (qf0 neg _ _ _ _ ha hb hA hB) ?_;rintro _ I1 hx1 ⟨u1,u2,rfl,k1,k2⟩;refine oS sizeOf48 ?_;refine oV ?_;refine nE ?_;refine retR rfl (.agg isAgg48 sizeOf48 rfl (by repeat constructor) rfl (.tmp rfl .nil)) ?_;refine leaf hx1 (List.nil_sublist _) ?_; rw [hr]; exact qcu k1 k2
structure qxz (t : yr) (xs : List NV) : Prop where
 few : ∀ o ∈ t.ops,OpC.few 3000 o
 nums : ∀ x ∈ xs,x.n.length ≤ 3000 ∧ x.d.length ≤ 3000
 ok : (vw t).isSome = true → (xs.length : Int) = t.ins → zf t.ops (xs.map NV.q)
structure BdQ (w : Nat) (q : Rat) : Prop where
 num : q.num.natAbs ≤ 2 ^ (134 * w - 1)
 den : q.den ≤ 2 ^ (134 * w - 1)
theorem qj1 (neg : Bool) (n d : Nat) : (lowQ neg n d).num.natAbs ≤ n ∧ (lowQ neg n d).den ≤ max 1 d := by
 by_cases h : d = 0 ∨ n = 0
 · rw [qfs h]
   exact ⟨Nat.zero_le _,Nat.le_max_left _ _⟩
 · obtain ⟨h1, h2, _⟩ := qg7 (neg := neg) (fun e => h (.inr e) : n ≠ 0) (fun e => h (.inl e) : d ≠ 0)
   rw [h1,h2]
   exact ⟨Nat.div_le_self _ _,Nat.le_trans (Nat.div_le_self _ _) (Nat.le_max_right _ _)⟩
theorem qx0 (k : Nat) : 1 ≤ 2 ^ k := Nat.pow_pos (by decide)
theorem BdQ.le {w v : Nat} {q : Rat} (h : BdQ w q) (hv : w ≤ v) : BdQ v q :=
 ⟨Nat.le_trans h.num (Nat.pow_le_pow_right (by decide) (by omega)),Nat.le_trans h.den (Nat.pow_le_pow_right (by decide) (by omega))⟩
theorem BdQ.add {w v : Nat} {p q : Rat} (hp : BdQ w p) (hq : BdQ v q) (hw : 1 ≤ w) (hv : 1 ≤ v) : BdQ (w + v) (p + q) := by
 rw [← qfu p q]
 have e : 2 ^ (134 * (w + v) - 1) = 2 ^ (134 * w - 1) * 2 ^ (134 * v - 1) * 2 := by
   rw [← Nat.pow_add,← Nat.pow_succ]; congr 1; omega
 have hd : p.den * q.den ≤ 2 ^ (134 * w - 1) * 2 ^ (134 * v - 1) := Nat.mul_le_mul hp.den hq.den
 have h1 : p.num.natAbs * q.den ≤ 2 ^ (134 * w - 1) * 2 ^ (134 * v - 1) := Nat.mul_le_mul hp.num hq.den
 have h2 : q.num.natAbs * p.den ≤ 2 ^ (134 * w - 1) * 2 ^ (134 * v - 1) := by rw [Nat.mul_comm]; exact Nat.mul_le_mul hp.den hq.num
 have hn : (p.num * (q.den : Int) + q.num * (p.den : Int)).natAbs ≤ p.num.natAbs * q.den + q.num.natAbs * p.den := by
   refine Nat.le_trans (Int.natAbs_add_le _ _) ?_
   rw [Int.natAbs_mul,Int.natAbs_mul,Int.natAbs_natCast,Int.natAbs_natCast]
   exact Nat.le_refl _
 obtain ⟨k1,k2⟩ := qj1 (decide (p.num * (q.den : Int) + q.num * (p.den : Int) < 0)) (p.num * (q.den : Int) + q.num * (p.den : Int)).natAbs (p.den * q.den)
 have hpos : 0 < p.den * q.den := Nat.mul_pos p.den_pos q.den_pos
 rw [Nat.max_eq_right hpos] at k2
 generalize 2 ^ (134 * w - 1) * 2 ^ (134 * v - 1) = M at *
 exact ⟨by rw [e]; omega,by rw [e]; omega⟩
theorem BdQ.mul {w v : Nat} {p q : Rat} (hp : BdQ w p) (hq : BdQ v q) (hw : 1 ≤ w) (hv : 1 ≤ v) : BdQ (w + v) (p * q) := by
 rw [← qft p q]
 have e : 2 ^ (134 * (w + v) - 1) = 2 ^ (134 * w - 1) * 2 ^ (134 * v - 1) * 2 := by
   rw [← Nat.pow_add,← Nat.pow_succ]; congr 1; omega
 have hd : p.den * q.den ≤ 2 ^ (134 * w - 1) * 2 ^ (134 * v - 1) := Nat.mul_le_mul hp.den hq.den
 have h1 : p.num.natAbs * q.num.natAbs ≤ 2 ^ (134 * w - 1) * 2 ^ (134 * v - 1) := Nat.mul_le_mul hp.num hq.num
 obtain ⟨k1,k2⟩ := qj1 (decide (p.num < 0) != decide (q.num < 0)) (p.num.natAbs * q.num.natAbs) (p.den * q.den)
 have hpos : 0 < p.den * q.den := Nat.mul_pos p.den_pos q.den_pos
 rw [Nat.max_eq_right hpos] at k2
 generalize 2 ^ (134 * w - 1) * 2 ^ (134 * v - 1) = M at *
 exact ⟨by rw [e]; omega,by rw [e]; omega⟩
theorem BdQ.neg {w : Nat} {q : Rat} (h : BdQ w q) : BdQ w (-q) := ⟨by rw [Rat.neg_num,Int.natAbs_neg]; exact h.num,by rw [Rat.neg_den]; exact h.den⟩
theorem BdQ.sub {w v : Nat} {p q : Rat} (hp : BdQ w p) (hq : BdQ v q) (hw : 1 ≤ w) (hv : 1 ≤ v) : BdQ (w + v) (p - q) := by
 rw [Rat.sub_eq_add_neg]; exact hp.add hq.neg hw hv
theorem BdQ.inv {w : Nat} {q : Rat} (h : BdQ w q) (h0 : q ≠ 0) : BdQ w q⁻¹ := ⟨by rw [qjv h0]; exact h.den,by rw [qjw h0]; exact h.num⟩
theorem BdQ.div {w v : Nat} {p q : Rat} (hp : BdQ w p) (hq : BdQ v q) (hw : 1 ≤ w) (hv : 1 ≤ v) (h0 : q ≠ 0) : BdQ (w + v) (p / q) := by
 rw [Rat.div_def]; exact hp.mul (hq.inv h0) hw hv
theorem BdQ.npow {w n : Nat} {q : Rat} (h : BdQ w q) (hw : 1 ≤ w) : BdQ (w * max 1 n) (q ^ n) := by
 have e : (2 ^ (134 * w - 1)) ^ n ≤ 2 ^ (134 * (w * max 1 n) - 1) := by
   rw [← Nat.pow_mul]
   refine Nat.pow_le_pow_right (by decide) ?_
   by_cases hn : n = 0
   · subst hn; exact Nat.zero_le _
   · rw [Nat.max_eq_right (by omega : 1 ≤ n), Nat.sub_mul, ← Nat.mul_assoc]
     have : n ≤ 134 * w * n := Nat.le_mul_of_pos_left _ (by omega)
     omega
 refine ⟨?_,?_⟩
 · rw [Rat.num_pow,Int.natAbs_pow]; exact Nat.le_trans (Nat.pow_le_pow_left h.num _) e
 · rw [Rat.den_pow]; exact Nat.le_trans (Nat.pow_le_pow_left h.den _) e
theorem BdQ.pow {w : Nat} {q : Rat} (e : Int) (h : BdQ w q) (hw : 1 ≤ w) (h0 : ¬ (e < 0 ∧ q = 0)) : BdQ (w * max 1 e.natAbs) (q ^ e) := by
 rw [← qjx]
 refine BdQ.npow ?_ hw
 unfold powX
 split
 · rename_i he; exact h.inv (fun e0 => h0 ⟨he,e0⟩)
 · exact h
theorem BdQ.low {neg : Bool} {n d : Nat} (hn : n ≤ 2 ^ 133) (hd : d ≤ 2 ^ 133) : BdQ 1 (lowQ neg n d) := by
 obtain ⟨k1,k2⟩ := qj1 neg n d
 have := qx0 133
 exact ⟨Nat.le_trans k1 hn,Nat.le_trans k2 (Nat.max_le.2 ⟨this,hd⟩)⟩
theorem qx1 : ∀ n : Nat,n < 10 ^ (digs n).length := by
 intro n
 induction n using Nat.strongRecOn with
 | ind n ih =>
   unfold digs
   by_cases h : n < 10
   · rw [dif_pos h]; show n < 10 ^ 1; omega
   · rw [dif_neg h, List.length_cons, Nat.pow_succ]
     have := ih (n / 10) (by omega)
     omega
theorem qo5 {n : Nat} (h : (digs n).length ≤ 40) : n ≤ 2 ^ 133 := by
 have h1 := qx1 n
 have h2 : 10 ^ (digs n).length ≤ 10 ^ 40 := Nat.pow_le_pow_right (by decide) h
 have h3 : 10 ^ 40 ≤ 2 ^ 133 := by decide
 omega
theorem qx2 {neg : Bool} {A B : List Nat} (h : yf neg A B = true) : BdQ 1 (lowQ neg (val A) (val B)) := by
 unfold yf at h
 simp only [Bool.and_eq_true,decide_eq_true_eq] at h
 exact BdQ.low (qo5 h.1.2) (qo5 h.2)
theorem qo6 {A : List Nat} (h : Wds A) {k : Nat} (hk : A.length ≤ k) (h4 : k ≤ 4) : val A ≤ 2 ^ 133 := by
 have h1 := y0 h
 have h2 : 4294967296 ^ A.length ≤ 4294967296 ^ 4 := Nat.pow_le_pow_right (by decide) (by omega)
 have h3 : 4294967296 ^ 4 ≤ 2 ^ 133 := by decide
 omega
theorem NV.bd {I : Hp} {x : NV} (h : x.ok I) (h1 : x.n.length ≤ 4) (h2 : x.d.length ≤ 4) : BdQ 1 x.q := BdQ.low (qo6 h.1.wds h1 (Nat.le_refl _)) (qo6 h.2.wds h2 (Nat.le_refl _))
structure BdL (l : List Nat) (qs : List Rat) : Prop where
 len : l.length = qs.length
 bd : ∀ i,i < l.length → BdQ (l.getD i 0) (qs.getD i 0)
 one : ∀ x ∈ l,1 ≤ x ∧ x ≤ 200
theorem BdL.add {l : List Nat} {qs : List Rat} {m : Nat} {q : Rat} (h : BdL l qs) (hq : BdQ m q) (hm : 1 ≤ m ∧ m ≤ 200) : BdL (l ++ [m]) (qs ++ [q]) := by
 refine ⟨by simp [h.len],fun i hi => ?_,fun x hx => ?_⟩
 · simp only [List.length_append, List.length_cons, List.length_nil] at hi
   simp only [List.getD_eq_getElem?_getD]
   by_cases hil : i < l.length
   · rw [List.getElem?_append_left hil, List.getElem?_append_left (by rw [← h.len]; exact hil)]
     have := h.bd i hil
     simpa only [List.getD_eq_getElem?_getD] using this
   · have hi' : i = l.length := by omega
     subst hi'
     rw [List.getElem?_append_right (Nat.le_refl _),List.getElem?_append_right (by rw [h.len]; exact Nat.le_refl _),Nat.sub_self,h.len,Nat.sub_self]
     exact hq
 · rcases List.mem_append.1 hx with hx | hx
   · exact h.one x hx
   · rw [List.mem_singleton.1 hx]; exact hm
theorem qhj {α : Type} {l : List α} {i : Nat} {d : α} (h : i < l.length) : l.getD i d ∈ l := by
 rw [List.getD_eq_getElem?_getD,List.getElem?_eq_getElem h]; exact List.getElem_mem h
theorem BdQ.few {w : Nat} {q : Rat} (h : BdQ w q) (hw : 1 ≤ w) : Few (5 * w) q := by
 have e : 2 ^ (134 * w - 1) < 4294967296 ^ (5 * w) := by
   rw [qce]; exact Nat.pow_lt_pow_right (by decide) (by omega)
 exact ⟨Nat.lt_of_le_of_lt h.num e,Nat.lt_of_le_of_lt h.den e⟩
theorem BdL.at_ {l : List Nat} {qs : List Rat} (h : BdL l qs) {i : Int} (hi : 0 ≤ i ∧ i < l.length) : BdQ (l.getD i.toNat 0) (zth qs i) ∧ 1 ≤ l.getD i.toNat 0 ∧ l.getD i.toNat 0 ≤ 200 :=
 ⟨h.bd i.toNat (by omega),h.one _ (qhj (by omega))⟩
theorem BdL.few {l : List Nat} {qs : List Rat} (h : BdL l qs) : ∀ q ∈ qs, Few 1000 q := fun q hq => by
 obtain ⟨i,hi,rfl⟩ := List.getElem_of_mem hq
 have hb := h.bd i (by rw [h.len]; exact hi)
 have ho := h.one _ (qhj (d := 0) (by rw [h.len]; exact hi : i < l.length))
 rw [List.getD_eq_getElem?_getD (l := qs),List.getElem?_eq_getElem hi] at hb
 exact (hb.few ho.1).le (by omega)
theorem qj2 {o : OpC} {l : List Nat} {m : Nat} (h : wgt o l = some m) : (o.code = 1 ∧ m = 1) ∨ (o.code ≠ 1 ∧ (0 ≤ o.a ∧ o.a < l.length) ∧ (0 ≤ o.b ∧ o.b < l.length) ∧ m = wgtM o l ∧ m ≤ 200) := by
 unfold wgt at h
 split at h
 · rename_i h1; cases h; exact .inl ⟨h1,rfl⟩
 · rename_i h1
   split at h
   · cases h
   · rename_i h2
     split at h
     · rename_i h3; cases h; exact .inr ⟨h1,by omega,by omega,rfl,h3⟩
     · cases h
theorem qx3 {o : OpC} (h : v7 o = true) : 1 ≤ o.code ∧ o.code ≤ 7 := by
 unfold v7 at h
 repeat (first | (split at h; omega) | (cases h; done))
theorem qo7 {o : OpC} (h : v7 o = true) (h1 : o.code = 1) : yf o.neg o.n o.d = true ∧ o.a = 0 ∧ o.b = 0 := by
 unfold v7 at h
 rw [if_pos h1] at h
 simp only [Bool.and_eq_true,decide_eq_true_eq] at h
 exact ⟨h.1,h.2.1,h.2.2.1⟩
theorem qx4 {o : OpC} {l : List Nat} {m : Nat} {qs : List Rat} {q : Rat} (hf : v7 o = true) (hw : wgt o l = some m) (hb : BdL l qs) (hq : opR o qs = some q) : BdQ m q ∧ 1 ≤ m ∧ m ≤ 200 := by
 have hc := qx3 hf
 rcases qj2 hw with ⟨h1,rfl⟩ | ⟨h1,ha,hb',hm,hm2⟩
 · refine ⟨?_, by omega, by omega⟩
   unfold opR at hq
   rw [if_neg (by omega),if_neg (by omega),if_neg (by omega),if_neg (by omega),if_neg (by omega),if_neg (by omega)] at hq
   cases hq
   exact qx2 (qo7 hf h1).1
 · obtain ⟨a1, a2, a3⟩ := hb.at_ ha
   obtain ⟨b1,b2,b3⟩ := hb.at_ hb'
   have hmx : 1 ≤ max 1 o.e.natAbs := Nat.le_max_left _ _
   have hmul : l.getD o.a.toNat 0 ≤ l.getD o.a.toNat 0 * max 1 o.e.natAbs := Nat.le_mul_of_pos_right _ (by omega)
   unfold wgtM at hm
   unfold opR at hq
   by_cases h2 : o.code = 2
   · rw [if_pos h2] at hq; cases hq
     rw [if_pos (by omega)] at hm; subst hm
     exact ⟨a1.add b1 a2 b2,by omega,hm2⟩
   rw [if_neg h2] at hq
   by_cases h3 : o.code = 3
   · rw [if_pos h3] at hq; cases hq
     rw [if_pos (by omega)] at hm; subst hm
     exact ⟨a1.sub b1 a2 b2,by omega,hm2⟩
   rw [if_neg h3] at hq
   by_cases h4 : o.code = 4
   · rw [if_pos h4] at hq; cases hq
     rw [if_pos (by omega)] at hm; subst hm
     exact ⟨a1.mul b1 a2 b2,by omega,hm2⟩
   rw [if_neg h4] at hq
   by_cases h5 : o.code = 5
   · rw [if_pos h5] at hq
     rw [if_pos (by omega)] at hm; subst hm
     split at hq
     · cases hq
     · rename_i h0; cases hq
       exact ⟨a1.div b1 a2 b2 h0,by omega,hm2⟩
   rw [if_neg h5] at hq
   rw [if_neg (by omega)] at hm
   by_cases h6 : o.code = 6
   · rw [if_pos h6] at hq; cases hq
     rw [if_neg (by omega)] at hm; subst hm
     exact ⟨a1.neg,a2,a3⟩
   rw [if_neg h6] at hq
   have h7 : o.code = 7 := by omega
   rw [if_pos h7] at hq hm
   split at hq
   · cases hq
   · rename_i h0; cases hq; subst hm
     exact ⟨a1.pow _ a2 h0,by omega,hm2⟩
theorem qo8 : ∀ {ops : List OpC} {l r : List Nat} {qs : List Rat}, wgts ops l = some r → BdL l qs → 0 < l.length → (∀ o ∈ ops, OpC.few 3000 o) → zf ops qs ∧ ∀ qr, opsR ops qs = some qr → BdL r qr
 | [],l,r,qs,h,hb,_,_ => by cases h; exact ⟨trivial,fun qr hq => by cases hq; exact hb⟩
 | o :: ops, l, r, qs, h, hb, hl, hf => by
   unfold wgts at h
   split at h
   · rename_i hfo
     split at h
     · rename_i m hm
       have key : ∀ q, opR o qs = some q → zf ops (qs ++ [q]) ∧ ∀ qr, opsR ops (qs ++ [q]) = some qr → BdL r qr := fun q hq => by
         obtain ⟨k1,k2⟩ := qx4 hfo hm hb hq
         exact qo8 h (hb.add k1 k2) (by simp) (fun x hx => hf x (List.mem_cons_of_mem _ hx))
       refine ⟨⟨⟨?_,fun q hq => (hb.few q hq).le (by decide),fun h7 => ?_,hf o List.mem_cons_self⟩,fun q hq => (key q hq).1⟩,fun qr hqr => ?_⟩
       · rw [← hb.len]
         rcases qj2 hm with ⟨h1,_⟩ | ⟨_,ha,hb',_⟩
         · obtain ⟨_, h2, h3⟩ := qo7 hfo h1
           omega
         · omega
       · rcases qj2 hm with ⟨h1, _⟩ | ⟨_, ha, hb', hmm, hm2⟩
         · omega
         · obtain ⟨a1, a2, a3⟩ := hb.at_ ha
           have he := qn9 hfo h7
           unfold wgtM at hmm
           rw [if_neg (by omega),if_pos h7] at hmm
           have h3 : l.getD o.a.toNat 0 * o.e.natAbs ≤ l.getD o.a.toNat 0 * max 1 o.e.natAbs := Nat.mul_le_mul_left _ (Nat.le_max_right _ _)
           refine ⟨5 * l.getD o.a.toNat 0,a1.few a2,by omega,?_,by omega,by omega⟩
           rw [Nat.mul_assoc]; omega
       · unfold opsR at hqr
         split at hqr
         · rename_i q hq; exact (key q hq).2 qr hqr
         · cases hqr
     · cases h
   · cases h
theorem BdL.start {qs : List Rat} (h : ∀ q ∈ qs, BdQ 1 q) : BdL (List.replicate qs.length 1) qs :=
 ⟨List.length_replicate, fun i hi => by
   rw [List.length_replicate] at hi
   rw [List.getD_eq_getElem?_getD,List.getElem?_replicate,if_pos hi]
   exact h _ (qhj hi),fun x hx => by rw [(List.mem_replicate.1 hx).2]; omega⟩
theorem qj3 {t : yr} {xs : List NV} (hf : ∀ o ∈ t.ops,OpC.few 3000 o) (hq : ∀ x ∈ xs,BdQ 1 x.q) (hl : ∀ x ∈ xs,x.n.length ≤ 3000 ∧ x.d.length ≤ 3000) : qxz t xs ∧ EvOK t xs := by
 have key : ∀ w, vw t = some w → (xs.length : Int) = t.ins → zf t.ops (xs.map NV.q) ∧ ∀ qr, opsR t.ops (xs.map NV.q) = some qr → BdL w qr := fun w hw hx => by
   obtain ⟨p1,p2,p3,p4,p5,p6,p7⟩ := qhf hw
   have hb : BdL (List.replicate t.ins.toNat 1) (xs.map NV.q) := by
     have e : t.ins.toNat = (xs.map NV.q).length := by rw [List.length_map]; omega
     rw [e]
     refine BdL.start fun q hq' => ?_
     obtain ⟨x,hx,rfl⟩ := List.mem_map.1 hq'
     exact hq x hx
   exact qo8 p6 hb (by rw [List.length_replicate]; omega) hf
 refine ⟨⟨hf,hl,fun h hx => ?_⟩,⟨fun o ho => ?_,fun x hx => ?_,fun h hx => ?_,fun l hl' q hq' => ?_⟩⟩
 · obtain ⟨w, hw⟩ := Option.isSome_iff_exists.1 h
   exact (key w hw hx).1
 · have := hf o ho; exact ⟨by have := this.1; omega,by have := this.2; omega⟩
 · have := hl x hx; omega
 · obtain ⟨w, hw⟩ := Option.isSome_iff_exists.1 h
   obtain ⟨p1,p2,p3,p4,p5,p6,p7⟩ := qhf hw
   exact ⟨by omega,(key w hw hx).1.ok⟩
 · obtain ⟨w, h1, h2, h3⟩ := qoh hl'
   exact (((key w h1 h2).2 l h3).few q hq').le (by decide)
end Go.Proofs.YtoincnplajnpnaaGreat
