/-
  TreeJoins, part 6: the texts RefX4, LawEnds, TreeJ, Mix, LawJoins, Open, OpenB, Open11, Open11B as one.
-/
import Derived.Test.YtmgpifkekofacaaGreatDoorQTreeJoinsE
import Derived.Deep.Slices
set_option linter.unusedVariables false
set_option linter.unusedSimpArgs false
set_option linter.unnecessarySimpa false
set_option maxHeartbeats 1000000
namespace Go.Proofs.YtmgpifkekofacaaGreatDoor
open Go Go.Tw
structure RgtV (I : Hp) (vi vl vo va : Value) (p : ProgC) (ns : List NodeV) (l : List (ByteArray × Ex)) : Prop where
  pv : ProgV I vi vl vo va p ns
  rg : RightP p l
  fw : FewC p
  f6 : ∀ o ∈ ns, o.c.few 6
theorem RgtV.le {I I' : Hp} {vi vl vo va : Value} {p : ProgC} {ns : List NodeV} {l : List (ByteArray × Ex)} (h : RgtV I vi vl vo va p ns l) (hl : I.Le I') : RgtV I' vi vl vo va p ns l := ⟨h.pv.le hl, h.rg, h.fw, h.f6⟩
theorem RgtV.len {I : Hp} {vi vl vo va : Value} {p : ProgC} {ns : List NodeV} {l : List (ByteArray × Ex)} (h : RgtV I vi vl vo va p ns l) : ns.length = p.all.length ∧ p.all.length ≤ 80 ∧ p.ins.length ≤ 16 ∧ l.length ≤ 16 ∧ p.outs.length ≤ 16 := by
  have h1 : p.all.length = ns.length := by rw [← h.pv.eq, List.length_map]
  have h2 : p.lets.length = l.length := by rw [h.rg.lets, laid_lets]
  obtain ⟨a, b, c, d⟩ := h.fw
  exact ⟨h1.symm, a, b, by omega, d⟩
theorem RgtV.good {I : Hp} {vi vl vo va : Value} {p : ProgC} {ns : List NodeV} {l : List (ByteArray × Ex)} (h : RgtV I vi vl vo va p ns l) : (∀ t ∈ namesK inS p.ins, Good t) ∧ (∀ t ∈ letsK l, Good t) ∧ ∀ t ∈ namesK outS p.outs, Good t :=
  ⟨namesK_good (by simp) _ h.rg.ins.1, letsK_good _ h.rg.ok, namesK_good (by simp) _ h.rg.outs.1⟩
theorem RgtV.size {I : Hp} {vi vl vo va : Value} {p : ProgC} {ns : List NodeV} {l : List (ByteArray × Ex)} (h : RgtV I vi vl vo va p ns l) : (namesK inS p.ins).length ≤ 40 ∧ (letsK l).length ≤ 500 ∧ (namesK outS p.outs).length ≤ 40 ∧ (joinZ (namesK inS p.ins)).size ≤ 3300 ∧ (joinZ (letsK l)).size ≤ 41000 ∧ (joinZ (namesK outS p.outs)).size ≤ 3300 := by
  obtain ⟨h1, h2, h3, h4, h5⟩ := h.len
  obtain ⟨g1, g2, g3⟩ := h.good
  have k1 := joinZ_size _ g1
  have k2 := joinZ_size _ g2
  have k3 := joinZ_size _ g3
  have n1 := namesK_len inS p.ins
  have n2 := letsK_len l 0
  have n3 := namesK_len outS p.outs
  rw [← h.rg.all] at n2
  omega
theorem rrHead_any {vi vl vo va : Value} {p : ProgC} {ns : List NodeV} {l : List (ByteArray × Ex)} {I : Hp} (h : RgtV I vi vl vo va p ns l) : Fun Tryz.prog 24 [.agg #[vi, vl, vo, va]] I [] (fun v _ _ => v = .string (joinZ (namesK inS p.ins))) := by
  have hsi := h.pv.si
  have hsl := h.pv.sl
  have hso := h.pv.so
  have hsa := h.pv.sa
  obtain ⟨z1, z2, z3, z4, z5, z6⟩ := h.size
  obtain ⟨m1, m2, m3, m4, m5⟩ := h.len
  intro w hw
  refine enter1 _ Tryz.func24 rfl Tryz.ntmps24 rfl ?_ hw;refine sR ?_;refine o_box trivial rfl rfl rfl (fun b1 => ?_);refine oV ?_;refine nS ?_;refine oF 0 Tryz.underlying27 Tryz.sizeOf23 ?_;refine oL Tryz.isAgg23 ?_;refine oC trivial rfl Tryz.call55 rfl (rrNamesT_any inS vi p.ins hsi (by omega)) (by repeat constructor) ?_;rintro v5 _ _ hx1 ⟨rfl, rfl⟩;refine l_seal (xss := scs (txs (namesK inS p.ins))) (by rw [scx_flat]; exact .here) (scx_len _) (scs_one _) (by unfold maxLen; omega) (fun I2 hx2 hs2 => ?_);refine oQ Tryz.call54 rfl (rrJoined_any _ _ hs2 (by omega)) ?_;refine oV ?_;refine nE ?_;refine ret1 rfl rfl ?_;exact leaf hx2 (List.nil_sublist _) rfl
theorem rrBody_any {vi vl vo va : Value} {p : ProgC} {ns : List NodeV} {l : List (ByteArray × Ex)} {I : Hp} (h : RgtV I vi vl vo va p ns l) : Fun Tryz.prog 25 [.agg #[vi, vl, vo, va]] I [] (fun v _ _ => v = .string (joinZ (letsK l))) := by
  have hsi := h.pv.si
  have hsl := h.pv.sl
  have hso := h.pv.so
  have hsa := h.pv.sa
  obtain ⟨z1, z2, z3, z4, z5, z6⟩ := h.size
  obtain ⟨m1, m2, m3, m4, m5⟩ := h.len
  intro w hw
  refine enter1 _ Tryz.func25 rfl Tryz.ntmps25 rfl ?_ hw;refine sR ?_;refine o_box trivial rfl rfl rfl (fun b1 => ?_);refine oV ?_;refine nS ?_;refine oA Tryz.isAgg27 Tryz.sizeOf27 ?_;refine oI Tryz.call56 rfl (rrLets_any vi vl vo va p ns l h.pv h.rg.toShaped (fun o ho => few_up (h.f6 o ho) (by decide)) (by omega) (by omega)) ?_;rintro v4 I1 hx1 hs1;refine oQ Tryz.call54 rfl (rrJoined_any _ _ hs1 (by omega)) ?_;refine oV ?_;refine nE ?_;refine ret1 rfl rfl ?_;exact leaf hx1 (List.nil_sublist _) rfl
theorem rrTail_any {vi vl vo va : Value} {p : ProgC} {ns : List NodeV} {l : List (ByteArray × Ex)} {I : Hp} (h : RgtV I vi vl vo va p ns l) : Fun Tryz.prog 26 [.agg #[vi, vl, vo, va]] I [] (fun v _ _ => v = .string (joinZ (namesK outS p.outs))) := by
  have hsi := h.pv.si
  have hsl := h.pv.sl
  have hso := h.pv.so
  have hsa := h.pv.sa
  obtain ⟨z1, z2, z3, z4, z5, z6⟩ := h.size
  obtain ⟨m1, m2, m3, m4, m5⟩ := h.len
  intro w hw
  refine enter1 _ Tryz.func26 rfl Tryz.ntmps26 rfl ?_ hw;refine sR ?_;refine o_box trivial rfl rfl rfl (fun b1 => ?_);refine oV ?_;refine nS ?_;refine oF 2 Tryz.underlying27 Tryz.sizeOf23 ?_;refine oL Tryz.isAgg23 ?_;refine oC trivial rfl Tryz.call55 rfl (rrNamesT_any outS vo p.outs hso (by omega)) (by repeat constructor) ?_;rintro v5 _ _ hx1 ⟨rfl, rfl⟩;refine l_seal (xss := scs (txs (namesK outS p.outs))) (by rw [scx_flat]; exact .here) (scx_len _) (scs_one _) (by unfold maxLen; omega) (fun I2 hx2 hs2 => ?_);refine oQ Tryz.call54 rfl (rrJoined_any _ _ hs2 (by omega)) ?_;refine oV ?_;refine nE ?_;refine ret1 rfl rfl ?_;exact leaf hx2 (List.nil_sublist _) rfl
theorem rrRightG_any (vi vl vo va : Value) (p : ProgC) (ns : List NodeV) {I : Hp} (hp : ProgV I vi vl vo va p ns) (hf : ∀ o ∈ ns, o.c.few 35184372088400) :
    Fun Tryz.prog 19 [.agg #[vi, vl, vo, va]] I [] (fun v _ _ => ∃ b, v = .bool b ∧ (fewP p 40 = true → b = rightZ p)) := by
  refine fun_mono (rrRightAll_any vi vl vo va p ns hp hf) fun v I' B' ⟨b, hv, hb⟩ => ⟨b, hv, fun h => hb fun o ho => ?_⟩
  obtain ⟨m1, m2, m3, m4, m5, m6⟩ := few_of h hp.eq
  exact few_up (m5 o ho) (by decide)
theorem rgt_of {I : Hp} {vi vl vo va : Value} {p : ProgC} {ns : List NodeV} (hp : ProgV I vi vl vo va p ns) (hf : fewP p 40 = true) (hr : rightZ p = true) : ∃ l, RgtV I vi vl vo va p ns l := by
  obtain ⟨m1, m2, m3, m4, m5, m6⟩ := few_of hf hp.eq
  rw [rightZ_eq] at hr
  obtain ⟨l, hl⟩ := tZ_iff.1 hr
  exact ⟨l, hp, hl, ⟨by omega, by omega, by omega, by omega⟩, m5⟩
def shL (n : Int) (c : LetC) : LetC := ⟨c.name, c.root + n⟩
def shN (n : Int) (c : NodeC) : NodeC := ⟨c.kind, if 2 ≤ c.kind then c.a + n else c.a, if 2 ≤ c.kind ∧ c.kind ≤ 5 then c.b + n else c.b, c.e, c.name, c.neg, c.n, c.d⟩
theorem nd_shift (n : Nat) : ∀ (x : Ex) (b : Nat), x.ok → x.nd (b + n) = (x.nd b).map (shN n) := by
  intro x
  induction x with
  | ref t => intro b _; rfl
  | num q => intro b _; rfl
  | neg x ih =>
    intro b h
    have e : (((b + n : Nat) : Int) + x.n - 1) = (b : Int) + x.n - 1 + n := by omega
    simp only [Ex.nd, List.map_append, ih b h, e]
    rfl
  | pow x e ih =>
    intro b h
    have e1 : (((b + n : Nat) : Int) + x.n - 1) = (b : Int) + x.n - 1 + n := by omega
    simp only [Ex.nd, List.map_append, ih b h.1, e1]
    rfl
  | bin k x y ih1 ih2 =>
    intro b h
    obtain ⟨h1, h2, h3, h4⟩ := h
    have e1 : (((b + n : Nat) : Int) + x.n - 1) = (b : Int) + x.n - 1 + n := by omega
    have e2 : (((b + n : Nat) : Int) + x.n + y.n - 1) = (b : Int) + x.n + y.n - 1 + n := by omega
    have e3 : b + n + x.n = b + x.n + n := by omega
    have e4 : binN k ((b : Int) + x.n - 1 + n) ((b : Int) + x.n + y.n - 1 + n) = shN n (binN k ((b : Int) + x.n - 1) ((b : Int) + x.n + y.n - 1)) := by
      unfold shN binN
      dsimp only
      rw [if_pos h1, if_pos ⟨h1, h2⟩]
    simp only [Ex.nd, List.map_append, ih1 b h3, e3, ih2 (b + x.n) h4, e1, e2, e4]
    rfl
theorem laid_shift (n : Nat) : ∀ (l : List (ByteArray × Ex)) (b : Nat), LetsOk l → laid l (b + n) = ((laid l b).1.map (shL n), (laid l b).2.map (shN n))
  | [], _, _ => rfl
  | (s, x) :: l, b, h => by
    have hx := (h _ List.mem_cons_self).2
    have ih := laid_shift n l (b + x.n) (fun a ha => h a (List.mem_cons_of_mem _ ha))
    have e3 : b + n + x.n = b + x.n + n := by omega
    have e1 : (((b + n : Nat) : Int) + x.n - 1) = (b : Int) + x.n - 1 + n := by omega
    simp only [laid, e3, ih, nd_shift n x b hx, List.map_append, List.map_cons, e1]
    rfl
theorem laid_app : ∀ (l m : List (ByteArray × Ex)) (b : Nat), laid (l ++ m) b = ((laid l b).1 ++ (laid m (b + (laid l b).2.length)).1, (laid l b).2 ++ (laid m (b + (laid l b).2.length)).2)
  | [], m, b => by simp [laid]
  | (s, x) :: l, m, b => by
    have ih := laid_app l m (b + x.n)
    have e : b + (x.nd b ++ (laid l (b + x.n)).2).length = b + x.n + (laid l (b + x.n)).2.length := by rw [List.length_append, x.nd_len]; omega
    simp only [List.cons_append, laid, ih, e, List.append_assoc]
def joinP (a b : ProgC) : ProgC := ⟨a.ins, a.lets ++ b.lets.map (shL a.all.length), b.outs, a.all ++ b.all.map (shN a.all.length)⟩
theorem right_join {a b : ProgC} {la lb : List (ByteArray × Ex)} (ha : RightP a la) (hb : RightP b lb) (h1 : la.length + lb.length ≤ 16) (h2 : a.all.length + b.all.length ≤ 80) : RightP (joinP a b) (la ++ lb) := by
  have e := laid_app la lb 0
  have hn : (laid la 0).2.length = a.all.length := by rw [ha.all]
  have e2 := laid_shift a.all.length lb 0 hb.ok
  rw [hn, e2, ← ha.lets, ← ha.all, ← hb.lets, ← hb.all] at e
  have hok : LetsOk (la ++ lb) := fun x hx => by
    rcases List.mem_append.1 hx with hx | hx
    · exact ha.ok x hx
    · exact hb.ok x hx
  refine ⟨⟨by rw [e]; rfl, by rw [e]; rfl, hok⟩, ha.ins, hb.outs, ⟨by rw [List.length_append]; omega, ?_⟩, fun x hx => ?_⟩
  · show (a.all ++ b.all.map _).length ≤ 400
    rw [List.length_append, List.length_map]; omega
  · rcases List.mem_append.1 hx with hx | hx
    · exact ha.low x hx
    · exact hb.low x hx
theorem join_text {a b : ProgC} {la lb : List (ByteArray × Ex)} : joinZ (progK (joinP a b).ins (joinP a b).outs (la ++ lb)) = joinZ (namesK inS a.ins) ++ joinZ (letsK la) ++ joinZ (letsK lb) ++ joinZ (namesK outS b.outs) := by
  unfold progK
  rw [letsK_app, joinZ_more, joinZ_more, joinZ_more]
  simp only [ByteArray.append_assoc]
  rfl
end Go.Proofs.YtmgpifkekofacaaGreatDoor
namespace Go.Tw
theorem rows_get {sz : Nat} : ∀ {rs : List (List Value)} {j f : Nat} {r : List Value} {y : Value}, (∀ r ∈ rs, r.length = sz) → rs[j]? = some r → r[f]? = some y → rs.flatten[j * sz + f]? = some y
  | [], j, f, r, y, _, h, _ => by cases h
  | r0 :: rs, 0, f, r, y, hl, h, hy => by
    cases h
    rw [List.flatten_cons, Nat.zero_mul, Nat.zero_add, List.getElem?_append_left (List.getElem?_eq_some_iff.1 hy).1]
    exact hy
  | r0 :: rs, j + 1, f, r, y, hl, h, hy => by
    have h0 := hl r0 List.mem_cons_self
    have ih := rows_get (j := j) (f := f) (fun r hr => hl r (List.mem_cons_of_mem _ hr)) h hy
    rw [List.flatten_cons, List.getElem?_append_right (by rw [h0, Nat.succ_mul]; omega), h0, show (j + 1) * sz + f - sz = j * sz + f by rw [Nat.succ_mul]; omega]
    exact ih
theorem rows_set {sz : Nat} {v : Value} : ∀ {rs : List (List Value)} {j f : Nat} {r : List Value}, (∀ r ∈ rs, r.length = sz) → rs[j]? = some r → f < sz → (rs.set j (r.set f v)).flatten = rs.flatten.set (j * sz + f) v
  | [], j, f, r, _, h, _ => by cases h
  | r0 :: rs, 0, f, r, hl, h, hf => by
    cases h
    have h0 := hl r0 List.mem_cons_self
    rw [List.set_cons_zero, List.flatten_cons, List.flatten_cons, Nat.zero_mul, Nat.zero_add, List.set_append_left _ _ (by omega)]
  | r0 :: rs, j + 1, f, r, hl, h, hf => by
    have h0 := hl r0 List.mem_cons_self
    have ih := rows_set (v := v) (j := j) (fun r hr => hl r (List.mem_cons_of_mem _ hr)) h hf
    rw [List.set_cons_succ, List.flatten_cons, List.flatten_cons, List.set_append_right _ _ (by rw [h0, Nat.succ_mul]; omega), ih, h0]
    congr 2
    rw [Nat.succ_mul]; omega
theorem rows_len {sz : Nat} : ∀ {rs : List (List Value)}, (∀ r ∈ rs, r.length = sz) → rs.flatten.length = rs.length * sz
  | [], _ => by simp
  | r0 :: rs, hl => by
    rw [List.flatten_cons, List.length_append, hl r0 List.mem_cons_self, rows_len fun r hr => hl r (List.mem_cons_of_mem _ hr), List.length_cons, Nat.succ_mul]; omega
theorem rows_put {sz : Nat} {v : Value} {rs : List (List Value)} {j f : Nat} {r : List Value} (hl : ∀ r ∈ rs, r.length = sz) (h : rs[j]? = some r) (hf : f < sz) : (rs.set j (r.set f v)).flatten = rs.flatten.take (j * sz + f) ++ [v] ++ rs.flatten.drop (j * sz + f + 1) := by
  rw [rows_set hl h hf]
  refine set_take_drop ?_
  have hj := (List.getElem?_eq_some_iff.1 h).1
  rw [rows_len hl]
  calc j * sz + f < j * sz + sz := by omega
    _ = (j + 1) * sz := by rw [Nat.succ_mul]
    _ ≤ rs.length * sz := Nat.mul_le_mul_right _ hj
def mixL {α : Type} (f : α → α) (A B : List α) (k : Nat) : List α := A ++ ((B.take k).map f ++ B.drop k)
theorem mix_zero {α : Type} (f : α → α) (A B : List α) : mixL f A B 0 = A ++ B := rfl
theorem mix_all {α : Type} {f : α → α} {A B : List α} {k : Nat} (h : B.length ≤ k) : mixL f A B k = A ++ B.map f := by
  unfold mixL; rw [List.take_of_length_le h, List.drop_of_length_le h, List.append_nil]
theorem mix_at {α : Type} {f : α → α} {A B : List α} {k : Nat} {c : α} (h : B[k]? = some c) : (mixL f A B k)[A.length + k]? = some c := by
  have hk := (List.getElem?_eq_some_iff.1 h).1
  have hlen : ((B.take k).map f).length = k := by rw [List.length_map, List.length_take]; omega
  unfold mixL
  rw [List.getElem?_append_right (by omega), Nat.add_sub_cancel_left, List.getElem?_append_right (by omega), hlen, Nat.sub_self, List.getElem?_drop]
  exact h
theorem mix_set {α : Type} {f : α → α} {A B : List α} {k : Nat} {c : α} (h : B[k]? = some c) : (mixL f A B k).set (A.length + k) (f c) = mixL f A B (k + 1) := by
  have hk := (List.getElem?_eq_some_iff.1 h).1
  have hlen : ((B.take k).map f).length = k := by rw [List.length_map, List.length_take]; omega
  unfold mixL
  rw [List.set_append_right _ _ (by omega), Nat.add_sub_cancel_left, List.set_append_right _ _ (by omega), hlen, Nat.sub_self, List.drop_eq_getElem_cons hk, List.set_cons_zero, List.take_add_one, h, List.map_append]
  simp
theorem map_at {α β : Type} {f : α → β} {l : List α} {i : Nat} {c : α} (h : l[i]? = some c) : (l.map f)[i]? = some (f c) := by rw [List.getElem?_map, h]; rfl
end Go.Tw
namespace Go.Proofs.YtmgpifkekofacaaGreatDoor
open Go Go.Tw
theorem lcs_plain (l : List LetC) : ∀ c ∈ l.map LetC.cells, plain1 c = true := by
  intro c hc
  obtain ⟨t, _, rfl⟩ := List.mem_map.1 hc
  rfl
theorem ncs_plain {I : Hp} {ns : List NodeV} (h : ∀ o ∈ ns, o.ok I) : ∀ c ∈ nds ns, plain1 c = true := by
  intro c hc
  obtain ⟨o, ho, rfl⟩ := List.mem_map.1 hc
  exact node_plain (h o ho).1.cells1.2 (h o ho).2.cells1.2
theorem lcs_two (l : List LetC) : ∀ r ∈ l.map LetC.cells, r.length = 2 := by
  intro c hc
  obtain ⟨t, _, rfl⟩ := List.mem_map.1 hc
  rfl
theorem nds_8 (l : List NodeV) : ∀ r ∈ nds l, r.length = 8 := by
  intro c hc
  obtain ⟨t, _, rfl⟩ := List.mem_map.1 hc
  rfl
def shV (n : Int) (o : NodeV) : NodeV := ⟨shN n o.c, o.vn, o.vd⟩
theorem nds_app (a b : List NodeV) : nds (a ++ b) = nds a ++ nds b := List.map_append
theorem shV_c (n : Int) (l : List NodeV) : (l.map (shV n)).map NodeV.c = (l.map NodeV.c).map (shN n) := by
  rw [List.map_map, List.map_map]; rfl
theorem nds_set {l : List NodeV} {j : Nat} {o : NodeV} : nds (l.set j o) = (nds l).set j o.cells := by unfold nds; rw [List.map_set]
theorem let_put {l : List LetC} {j : Nat} {c : LetC} (h : l[j]? = some c) (z : Int) : ((l.set j ⟨c.name, z⟩).map LetC.cells).flatten = (l.map LetC.cells).flatten.take (j * 2 + 1) ++ [.int .i64 z] ++ (l.map LetC.cells).flatten.drop (j * 2 + 1 + 1) := by
  rw [List.map_set]
  exact rows_put (v := .int .i64 z) (lcs_two l) (map_at h) (f := 1) (by decide)
theorem node_put {l : List NodeV} {j f : Nat} {o o' : NodeV} {v : Value} (h : l[j]? = some o) (hf : f < 8) (ho : o'.cells = o.cells.set f v) : (nds (l.set j o')).flatten = (nds l).flatten.take (j * 8 + f) ++ [v] ++ (nds l).flatten.drop (j * 8 + f + 1) := by
  rw [nds_set, ho]
  exact rows_put (nds_8 l) (map_at h) hf
theorem node_get {l : List NodeV} {j f : Nat} {o : NodeV} {y : Value} (h : l[j]? = some o) (hy : o.cells[f]? = some y) : (nds l).flatten[j * 8 + f]? = some y := rows_get (nds_8 l) (map_at h) hy
theorem let_get {l : List LetC} {j f : Nat} {o : LetC} {y : Value} (h : l[j]? = some o) (hy : o.cells[f]? = some y) : (l.map LetC.cells).flatten[j * 2 + f]? = some y := rows_get (lcs_two l) (map_at h) hy
theorem shape_small {p : ProgC} {l : List (ByteArray × Ex)} (h : Shaped p l) (i : Nat) (c : LetC) (hc : p.lets[i]? = some c) : 0 ≤ c.root ∧ c.root < p.all.length := by
  rw [h.lets] at hc
  have hi := (List.getElem?_eq_some_iff.1 hc).1
  rw [laid_lets] at hi
  obtain ⟨b', h1, h2, h3, _⟩ := laid_at l 0 i l[i].1 l[i].2 (by rw [List.getElem?_eq_getElem hi])
  rw [hc] at h1
  have e := Option.some.inj h1
  have hp := l[i].2.n_pos
  rw [h.all, e]
  dsimp only
  omega
def aV (n : Int) (o : NodeV) : NodeV := ⟨⟨o.c.kind, if 2 ≤ o.c.kind then o.c.a + n else o.c.a, o.c.b, o.c.e, o.c.name, o.c.neg, o.c.n, o.c.d⟩, o.vn, o.vd⟩
theorem aV_ge {o : NodeV} {n : Int} (h : 2 ≤ o.c.kind) : (aV n o).cells = o.cells.set 1 (.int .i64 (o.c.a + n)) := by
  unfold aV NodeV.cells
  rw [if_pos h]
  rfl
theorem aV_lt {o : NodeV} {n : Int} (h : ¬ 2 ≤ o.c.kind) : aV n o = o := by
  unfold aV
  rw [if_neg h]
theorem shV_aV {o : NodeV} {n : Int} (h : ¬ (2 ≤ o.c.kind ∧ o.c.kind ≤ 5)) : shV n o = aV n o := by
  unfold aV shV shN
  rw [if_neg h]
theorem shV_set {o : NodeV} {n : Int} (h : 2 ≤ o.c.kind ∧ o.c.kind ≤ 5) : (shV n o).cells = (aV n o).cells.set 2 (.int .i64 (o.c.b + n)) := by
  unfold aV shV shN NodeV.cells
  rw [if_pos h, if_pos h.1]
  rfl
theorem set_at {α : Type} {l : List α} {j : Nat} {a b : α} (h : l[j]? = some a) : (l.set j b)[j]? = some b := by
  have := (List.getElem?_eq_some_iff.1 h).1
  simp [this]
theorem set_same {α : Type} {l : List α} {j : Nat} {a : α} (h : l[j]? = some a) : l.set j a = l := by
  obtain ⟨h1, h2⟩ := List.getElem?_eq_some_iff.1 h
  rw [← h2]
  exact List.set_getElem_self h1
theorem few_ok {I : Hp} {vi vl vo va : Value} {p : ProgC} {ns : List NodeV} (hf : fewP p 40 = true) (hp : ProgV I vi vl vo va p ns) : ∀ o ∈ ns, o.c.few 3000 := fun o ho => by
  obtain ⟨m1, m2, m3, m4, m5, m6⟩ := few_of hf hp.eq
  exact few_up (m5 o ho) (by decide)
theorem TreeJoins_any (vi vl vo va : Value) (p : ProgC) (ns : List NodeV) (ui ul uo ua : Value) (q : ProgC) (ms : List NodeV) {I : Hp} (hp : ProgV I vi vl vo va p ns) (hf : ∀ o ∈ ns, o.c.few 35184372088400) (hq : ProgV I ui ul uo ua q ms) (hf2 : ∀ o ∈ ms, o.c.few 35184372088400) (hT : Tabs I) (hM : Mx I) (hE : Errs I) : Fun Tryz.prog 6 [.agg #[vi, vl, vo, va], .agg #[ui, ul, uo, ua]] I [] (fun v _ _ => v = .bool true) := by
  have hpi := hp.si
  have hpl := hp.sl
  have hpo := hp.so
  have hpa := hp.sa
  have hqi := hq.si
  have hql := hq.sl
  have hqo := hq.so
  have hqa := hq.sa
  have lp : (p.lets.map LetC.cells).length = p.lets.length := List.length_map _
  have lq : (q.lets.map LetC.cells).length = q.lets.length := List.length_map _
  have np := nds_len ns
  have nq := nds_len ms
  have ap : p.all.length = ns.length := by rw [← hp.eq, List.length_map]
  have aq : q.all.length = ms.length := by rw [← hq.eq, List.length_map]
  intro w hw
  refine enter2 _ Tryz.func6 rfl Tryz.ntmps6 rfl ?_ hw;refine sR ?_;refine o_box trivial rfl rfl rfl (fun b2 => ?_);refine o_box trivial rfl rfl rfl (fun b3 => ?_);refine oV ?_;refine nS ?_;refine oQ Tryz.call14 rfl (awake11_any hT hM hE) ?_;refine oV ?_;refine nS ?_;refine oA Tryz.isAgg27 Tryz.sizeOf27 ?_;refine oQ Tryz.call18 rfl (rrFew_any vi vl vo va p ns 40 hp) ?_;refine' o_and trivial trivial rfl rfl rfl rfl rfl rfl rfl rfl (fun hb19 => ?_) ?_;rotate_left
  ·
   have fb19 := hb19
   try simp only [bl] at fb19
   refine o_loadA (wS rfl rfl hb19) rfl Tryz.isAgg27 Tryz.sizeOf27 rfl (by repeat constructor) (by repeat constructor) ?_;refine o_callQ (wS rfl rfl hb19) rfl Tryz.call18 rfl (rrFew_any ui ul uo ua q ms 40 hq) ?_;refine oN ?_;exact joins rfl
  refine oV ?_;refine oN (tC (cS ?_))
  by_cases hfw : fewP p 40 = true ∧ fewP q 40 = true
  ·
   refine cR ?_;refine oA Tryz.isAgg27 Tryz.sizeOf27 ?_;refine oQ Tryz.call19 rfl (rrRight_any vi vl vo va p ns hp (few_ok hfw.1 hp)) ?_;refine' o_and trivial trivial rfl rfl rfl rfl rfl rfl rfl rfl (fun hb25 => ?_) ?_;rotate_left
   ·
    have fb25 := hb25
    try simp only [bl] at fb25
    refine o_loadA (wS rfl rfl hb25) rfl Tryz.isAgg27 Tryz.sizeOf27 rfl (by repeat constructor) (by repeat constructor) ?_;refine o_callQ (wS rfl rfl hb25) rfl Tryz.call19 rfl (rrRight_any ui ul uo ua q ms hq (few_ok hfw.2 hq)) ?_;refine oN ?_;exact joins rfl
   refine oV ?_;refine nU ?_;iterate 2 refine oV ?_
   refine' o_or trivial trivial rfl rfl rfl rfl rfl rfl rfl rfl (fun hb31 => ?_) ?_;rotate_left
   ·
    have fb31 := hb31
    try simp only [bl] at fb31
    iterate 2 refine gV hb31 ?_
    refine oN ?_;exact joins rfl
   refine nT ?_;refine cC rfl (fun h1 => ?_) (fun h1 => ?_)
   ·
    have f1 := h1;try simp only [bl] at f1
    refine sR ?_;iterate 2 refine oV ?_
    refine nF ?_;refine ret1 rfl rfl ?_
    first | exact leaf0 rfl | (refine leaf (hx1.trans (hx2.trans hx3 (Nat.le_refl _)) (Nat.le_refl _)) (List.nil_sublist _) (congrArg Value.bool ?_); rw [tZ_right hrj]; done) | (refine leaf (hx1.trans (hx2.trans hx3 (Nat.le_refl _)) (Nat.le_refl _)) (List.nil_sublist _) (congrArg Value.bool ?_); rw [tZ_right hrj]; simp)
   have f1 := h1;try simp only [bl] at f1
   obtain ⟨g3, g4⟩ : rightZ p = true ∧ rightZ q = true := by
     have h9 := h1
     rw [hfw.1, hfw.2] at h9
     simpa using h9
   obtain ⟨la, hRa⟩ := rgt_of hp hfw.1 g3
   obtain ⟨lb, hRb⟩ := rgt_of hq hfw.2 g4
   obtain ⟨m1, m2, m3, m4, m5, m6⟩ := few_of hfw.1 hp.eq
   obtain ⟨k1, k2, k3, k4, k5, k6⟩ := few_of hfw.2 hq.eq
   have hrj := right_join hRa.rg hRb.rg (by have := hRa.rg.lets; have e1 := laid_lets la 0; have e2 := laid_lets lb 0; rw [← hRa.rg.lets] at e1; rw [← hRb.rg.lets] at e2; omega) (by omega)
   have hjc : FewC (joinP p q) := ⟨by show (p.all ++ q.all.map _).length ≤ 80; rw [List.length_append, List.length_map]; omega, by show p.ins.length ≤ 16; omega, by show (p.lets ++ q.lets.map _).length ≤ 16; rw [List.length_append, List.length_map]; omega, by show q.outs.length ≤ 16; omega⟩
   have hrs := shape_small hRb.rg.toShaped
   have hlow := shaped_low hRb.rg.toShaped
   have hsa := hRa.size
   have hsb := hRb.size
   refine kS ?_;refine oF 0 Tryz.underlying27 Tryz.sizeOf23 ?_;refine oL Tryz.isAgg23 ?_;refine oF 2 Tryz.underlying27 Tryz.sizeOf23 ?_;refine oL Tryz.isAgg23 ?_;refine o_buildS trivial rfl (bld27) rfl (.cons rfl (by first | exact (Ws.cells1 (by assumption)).1 | exact (Slc.cells1 (by assumption)).1 | rfl) (by rfl) (by repeat constructor) (.cons rfl (by first | exact (Ws.cells1 (by assumption)).1 | exact (Slc.cells1 (by assumption)).1 | rfl) (by rfl) (by repeat constructor) .nil)) ?_;refine o_alloc trivial rfl Tryz.zeroValue27 rfl (fun b8 => ?_);refine oS Tryz.sizeOf27 ?_;refine oN (tC (cS ?_));refine h_beginB (m := 9) [.box b2 _, .box b3 _] (by repeat constructor) (by kernel_rfl) rfl ?_;refine qT (i := 1) (qB 9 2) (Hp.Le.refl _) rfl rfl (oF 1 Tryz.underlying27 Tryz.sizeOf24 qF) ?_;refine qT (i := 2) (qB 9 6) (Hp.Le.refl _) rfl rfl (oL Tryz.isAgg24 qF) ?_;refine qT (i := 4) (qB 9 22) (Hp.Le.refl _) rfl rfl (oF 1 Tryz.underlying27 Tryz.sizeOf24 qF) ?_;refine qT (i := 5) (qB 9 54) (Hp.Le.refl _) rfl rfl (oL Tryz.isAgg24 qF) ?_;refine qO (i := 0) (qB 9 55) rfl ?_;refine o_emptySl trivial rfl Tryz.underlying24 Tryz.sizeOf46 (fun v41 => ?_);refine qM (Hp.Le.refl _) ?_;refine qO (i := 3) (qB 9 63) rfl ?_;refine oE Tryz.underlying24 elem46 (hpl) (lcs_plain _) fun v44 => ?_;refine qM (Hp.Le.refl _) ?_;refine qO (i := 6) (qB 9 127) rfl ?_;refine oE Tryz.underlying24 elem46 (hql) (lcs_plain _) fun v47 => ?_;refine qM (Hp.Le.refl _) ?_;refine qT (i := 7) (qB 9 255) (Hp.Le.refl _) rfl rfl (oF 1 Tryz.underlying27 Tryz.sizeOf24 qF) ?_
   refine qO (i := 8) (qB 9 511) rfl ?_;refine l_rowCells (u := v47) (by repeat constructor) (fun hcv => ?_);refine o_storeBox1 trivial rfl rfl (hcv).1 Tryz.sizeOf24 (hcv).2 (by repeat constructor) (by exact Nat.le_of_ble_eq_true rfl) ?_;refine qM (Hp.Le.refl _) ?_;refine h_end (by kernel_rfl) ?_;refine tC (cS ?_);refine h_beginB (m := 9) [.box b2 _, .box b3 _] (by repeat constructor) (by kernel_rfl) rfl ?_;refine qT (i := 1) (qB 9 2) (Hp.Le.refl _) rfl rfl (oF 3 Tryz.underlying27 Tryz.sizeOf25 qF) ?_;refine qT (i := 2) (qB 9 6) (Hp.Le.refl _) rfl rfl (oL Tryz.isAgg25 qF) ?_;refine qT (i := 4) (qB 9 22) (Hp.Le.refl _) rfl rfl (oF 3 Tryz.underlying27 Tryz.sizeOf25 qF) ?_;refine qT (i := 5) (qB 9 54) (Hp.Le.refl _) rfl rfl (oL Tryz.isAgg25 qF) ?_;refine qO (i := 0) (qB 9 55) rfl ?_;refine o_emptySl trivial rfl Tryz.underlying25 Tryz.sizeOf44 (fun v49 => ?_);refine qM (Hp.Le.refl _) ?_;refine qO (i := 3) (qB 9 63) rfl ?_;refine oE Tryz.underlying25 elem44 (hpa) (ncs_plain hp.ok) fun v52 => ?_;refine qM (Hp.Le.refl _) ?_;refine qO (i := 6) (qB 9 127) rfl ?_;refine oE Tryz.underlying25 elem44 (hqa) (ncs_plain hq.ok) fun v55 => ?_;refine qM (Hp.Le.refl _) ?_;refine qT (i := 7) (qB 9 255) (Hp.Le.refl _) rfl rfl (oF 3 Tryz.underlying27 Tryz.sizeOf25 qF) ?_;refine qO (i := 8) (qB 9 511) rfl ?_;refine l_rowCells (u := v55) (by repeat constructor) (fun hcw => ?_);refine o_storeBox1 trivial rfl rfl (hcw).1 Tryz.sizeOf25 (hcw).2 (by repeat constructor) (by exact Nat.le_of_ble_eq_true rfl) ?_
   refine qM (Hp.Le.refl _) ?_;refine h_end (by kernel_rfl) ?_;refine tC (sR ?_);refine oF 3 Tryz.underlying27 Tryz.sizeOf25 ?_;refine oL Tryz.isAgg25 ?_;refine o_lenSlc trivial rfl Tryz.underlying25 rfl (hpa) ?_;refine oV ?_;refine nU ?_;refine oF 1 Tryz.underlying27 Tryz.sizeOf24 ?_;refine oL Tryz.isAgg24 ?_;refine o_lenSlc trivial rfl Tryz.underlying24 rfl (hpl) ?_;refine oV ?_;refine oN (tC (cB ?_));refine c_loop (ι := Nat) [2, 3, 5, 8, 9] (.cons rfl (.cons rfl (.cons rfl (.cons rfl (.cons rfl .nil))))) (fun i => p.lets.length + q.lets.length - i) (fun i E0 => (10, .int .i64 (i : Nat)) :: E0) (fun i => St w [] I [.row v47 46 2 (0 + (p.lets.map LetC.cells).length + (q.lets.map LetC.cells).length) ((mixL (shL ((nds ns).length : Nat)) p.lets q.lets (i - p.lets.length)).map LetC.cells).flatten, .row v55 44 8 (0 + (nds ns).length + (nds ms).length) ([] ++ (nds ns).flatten ++ (nds ms).flatten), .box b8 (.cells [vi, v47, uo, v55].toArray 27 (0, 0)), .box b3 (.cells #[ui, ul, uo, ua] 27 (0, 0)), .box b2 (.cells #[vi, vl, vo, va] 27 (0, 0))]) (fun i => p.lets.length ≤ i ∧ i ≤ p.lets.length + q.lets.length) ((p.lets.map LetC.cells).length) (sC rfl (sC rfl (sC rfl (sC rfl (sC rfl (sC rfl sN)))))) (fun _ h => by rw [lp, Nat.sub_self, mix_zero, List.map_append, List.flatten_append]; rw [lp] at h; exact h.sort (by repeat constructor)) (⟨by rw [lp]; exact Nat.le_refl _, by rw [lp]; omega⟩) ?_;rintro i ⟨hi0, hi1⟩
   try dsimp only
   refine cS (sR ?_);refine oV ?_;refine oF 1 Tryz.underlying27 Tryz.sizeOf24 ?_;refine oL Tryz.isAgg24 ?_;refine o_lenRow trivial rfl Tryz.underlying24 rfl (by repeat constructor) ?_;refine oV ?_;refine nT ?_;refine cC rfl (fun h2 => ?_) (fun h2 => ?_)
   ·
    have f2 := h2;try simp only [bl] at f2
    obtain ⟨k, rfl⟩ : ∃ k, i = p.lets.length + k := ⟨i - p.lets.length, by omega⟩
    rw [Nat.add_sub_cancel_left]
    obtain ⟨c, hc⟩ : ∃ c, q.lets[k]? = some c := ⟨q.lets[k]'(by omega), List.getElem?_eq_getElem (by omega)⟩
    have hat := mix_at (f := shL ((nds ns).length : Nat)) (A := p.lets) hc
    have hr := hrs k c hc
    refine cK (tC (cS (cB ?_)));refine h_beginB (m := 14) [.box b8 _] (by repeat constructor) (by kernel_rfl) rfl ?_;refine qT (i := 0) (qB 14 1) (Hp.Le.refl _) rfl rfl (oF 1 Tryz.underlying27 Tryz.sizeOf24 qF) ?_;refine qT (i := 1) (qB 14 3) (Hp.Le.refl _) rfl rfl (oL Tryz.isAgg24 qF) ?_;refine qT (i := 2) (qB 14 7) (Hp.Le.refl _) rfl rfl (oV qF) ?_;refine qT (i := 3) (qB 14 15) (Hp.Le.refl _) rfl rfl (oF 1 Tryz.underlying27 Tryz.sizeOf24 qF) ?_;refine qT (i := 4) (qB 14 31) (Hp.Le.refl _) rfl rfl (oL Tryz.isAgg24 qF) ?_;refine qT (i := 5) (qB 14 63) (Hp.Le.refl _) rfl rfl (oV qF) ?_;refine qT (i := 9) (qB 14 575) (Hp.Le.refl _) rfl rfl (oV qF) ?_;refine qO (i := 6) (qB 14 639) rfl ?_;refine o_elemRow trivial rfl Tryz.underlying24 Tryz.sizeOf46 rfl (by repeat constructor) rfl (by omega) ?_;refine qM (Hp.Le.refl _) ?_;refine qT (i := 7) (qB 14 767) (Hp.Le.refl _) rfl rfl (oF 1 Tryz.underlying46 Tryz.sizeOf3 qF) ?_;refine qO (i := 8) (qB 14 1023) rfl ?_;refine o_loadRow1 trivial rfl Tryz.isAgg3 (by repeat constructor) rfl (by rw [Int.toNat_natCast]; exact let_get hat rfl) ?_;refine qM (Hp.Le.refl _) ?_;refine' qT (i := 10) (qB 14 2047) (Hp.Le.refl _) rfl rfl ?hh0 ?kk0
    case hh0 =>
     first | (refine o_add trivial rfl rfl rfl ?_ ?_; (omega)) | refine oV ?_
     exact qF
    refine qO (i := 11) (qB 14 4095) rfl ?_;refine o_elemRow trivial rfl Tryz.underlying24 Tryz.sizeOf46 rfl (by repeat constructor) rfl (by omega) ?_;refine qM (Hp.Le.refl _) ?_;refine qT (i := 12) (qB 14 8191) (Hp.Le.refl _) rfl rfl (oF 1 Tryz.underlying46 Tryz.sizeOf3 qF) ?_;refine qO (i := 13) (qB 14 16383) rfl ?_;refine o_storeRow (xs' := (((mixL (shL ((nds ns).length : Nat)) p.lets q.lets (k + 1)).map LetC.cells).flatten)) trivial rfl rfl rfl Tryz.sizeOf3 rfl rfl (by repeat constructor) (by decide) (by omega) (by rw [Int.toNat_natCast, ← mix_set hc]; exact let_put hat _) ?_;refine qM (Hp.Le.refl _) ?_;refine h_end (by kernel_rfl) ?_;refine blk_n (tC (cR ?_));refine oV ?_
    first | (refine o_add trivial rfl rfl rfl ?_ ?_; (omega)) | refine oV ?_
    refine oV ?_;refine oN ?_;exact again (p.lets.length + k + 1) (sC rfl (sC rfl (sC rfl (sC rfl (sC rfl (sC rfl sN)))))) (fun _ h => by rw [show p.lets.length + k + 1 - p.lets.length = k + 1 by omega]; exact h.sort (by repeat constructor)) (by show p.lets.length + q.lets.length - (p.lets.length + k + 1) < p.lets.length + q.lets.length - (p.lets.length + k); omega) ⟨by show p.lets.length ≤ p.lets.length + k + 1; omega, by show p.lets.length + k + 1 ≤ _; omega⟩
   have f2 := h2;try simp only [bl] at f2
   have hin : i - p.lets.length = q.lets.length := by omega
   rw [hin, mix_all (Nat.le_refl _)]
   refine c_exit (then_x (then_x (blk_eq rfl (tC (cS (sR ?_))))));iterate 2 refine oV ?_
   refine oN (tC (cB ?_));refine c_loop (ι := Nat) [2, 3, 5, 8, 9] (.cons rfl (.cons rfl (.cons rfl (.cons rfl (.cons rfl .nil))))) (fun i => ns.length + ms.length - i) (fun i E0 => (11, .int .i64 (i : Nat)) :: E0) (fun i => St w [] I [.row v55 44 8 (0 + (nds ns).length + (nds ms).length) (nds (mixL (shV ((nds ns).length : Nat)) ns ms (i - ns.length))).flatten, .row v47 46 2 (0 + (p.lets.map LetC.cells).length + (q.lets.map LetC.cells).length) ((p.lets ++ q.lets.map (shL ((nds ns).length : Nat))).map LetC.cells).flatten, .box b8 (.cells [vi, v47, uo, v55].toArray 27 (0, 0)), .box b3 (.cells #[ui, ul, uo, ua] 27 (0, 0)), .box b2 (.cells #[vi, vl, vo, va] 27 (0, 0))]) (fun i => ns.length ≤ i ∧ i ≤ ns.length + ms.length) ((nds ns).length) (sC rfl (sC rfl (sC rfl (sC rfl (sC rfl (sC rfl sN)))))) (fun _ h => by rw [show (nds ns).length - ns.length = 0 by omega, mix_zero, nds_app, List.flatten_append]; exact h.sort (by repeat constructor)) (⟨by rw [np]; exact Nat.le_refl _, by rw [np]; omega⟩) ?_;rintro i ⟨hj0, hj1⟩
   try dsimp only
   refine cS (sR ?_);refine oV ?_;refine oF 3 Tryz.underlying27 Tryz.sizeOf25 ?_;refine oL Tryz.isAgg25 ?_;refine o_lenRow trivial rfl Tryz.underlying25 rfl (by repeat constructor) ?_;refine oV ?_;refine nT ?_;refine cC rfl (fun h3 => ?_) (fun h3 => ?_)
   ·
    have f3 := h3;try simp only [bl] at f3
    obtain ⟨k, rfl⟩ : ∃ k, i = ns.length + k := ⟨i - ns.length, by omega⟩
    rw [Nat.add_sub_cancel_left]
    obtain ⟨o, hc⟩ : ∃ o, ms[k]? = some o := ⟨ms[k]'(by omega), List.getElem?_eq_getElem (by omega)⟩
    have hat := mix_at (f := shV ((nds ns).length : Nat)) (A := ns) hc
    have hatA := set_at (b := aV ((nds ns).length : Nat) o) hat
    have hlo := hlow k o.c (by rw [← hq.eq]; exact map_at hc)
    refine cK (tC (cS (cB ?_)));refine c_cut (ι := Unit) [2, 3, 5, 8, 9, 11] (.cons rfl (.cons rfl (.cons rfl (.cons rfl (.cons rfl (.cons rfl .nil)))))) (fun z E0 => E0) (fun z => St w [] I [.row v55 44 8 (0 + (nds ns).length + (nds ms).length) (nds ((mixL (shV ((nds ns).length : Nat)) ns ms k).set (ns.length + k) (aV ((nds ns).length : Nat) o))).flatten, .row v47 46 2 (0 + (p.lets.map LetC.cells).length + (q.lets.map LetC.cells).length) ((p.lets ++ q.lets.map (shL ((nds ns).length : Nat))).map LetC.cells).flatten, .box b8 (.cells [vi, v47, uo, v55].toArray 27 (0, 0)), .box b3 (.cells #[ui, ul, uo, ua] 27 (0, 0)), .box b2 (.cells #[vi, vl, vo, va] 27 (0, 0))]) (fun z => True) ?_ ?_
    ·
     refine sR ?_;refine oF 3 Tryz.underlying27 Tryz.sizeOf25 ?_;refine oL Tryz.isAgg25 ?_;refine oV ?_;refine o_elemRow trivial rfl Tryz.underlying25 Tryz.sizeOf44 rfl (by repeat constructor) rfl (by omega) ?_;refine oF 0 Tryz.underlying44 Tryz.sizeOf3 ?_;refine o_loadRow1 trivial rfl Tryz.isAgg3 (by repeat constructor) rfl (by rw [Int.toNat_natCast]; exact node_get hat rfl) ?_;refine oV ?_;refine nT ?_;refine cC rfl (fun h4 => ?_) (fun h4 => ?_)
     ·
      have f4 := h4;try simp only [bl] at f4
      obtain ⟨q1, q2, q3⟩ := hlo (by omega)
      refine h_beginB (m := 14) [.box b8 _] (by repeat constructor) (by kernel_rfl) rfl ?_;refine qT (i := 0) (qB 14 1) (Hp.Le.refl _) rfl rfl (oF 3 Tryz.underlying27 Tryz.sizeOf25 qF) ?_;refine qT (i := 1) (qB 14 3) (Hp.Le.refl _) rfl rfl (oL Tryz.isAgg25 qF) ?_;refine qT (i := 2) (qB 14 7) (Hp.Le.refl _) rfl rfl (oV qF) ?_;refine qT (i := 3) (qB 14 15) (Hp.Le.refl _) rfl rfl (oF 3 Tryz.underlying27 Tryz.sizeOf25 qF) ?_;refine qT (i := 4) (qB 14 31) (Hp.Le.refl _) rfl rfl (oL Tryz.isAgg25 qF) ?_;refine qT (i := 5) (qB 14 63) (Hp.Le.refl _) rfl rfl (oV qF) ?_;refine qT (i := 9) (qB 14 575) (Hp.Le.refl _) rfl rfl (oV qF) ?_;refine qO (i := 6) (qB 14 639) rfl ?_;refine o_elemRow trivial rfl Tryz.underlying25 Tryz.sizeOf44 rfl (by repeat constructor) rfl (by omega) ?_;refine qM (Hp.Le.refl _) ?_;refine qT (i := 7) (qB 14 767) (Hp.Le.refl _) rfl rfl (oF 1 Tryz.underlying44 Tryz.sizeOf3 qF) ?_;refine qO (i := 8) (qB 14 1023) rfl ?_;refine o_loadRow1 trivial rfl Tryz.isAgg3 (by repeat constructor) rfl (by rw [Int.toNat_natCast]; exact node_get hat rfl) ?_;refine qM (Hp.Le.refl _) ?_;refine' qT (i := 10) (qB 14 2047) (Hp.Le.refl _) rfl rfl ?hh1 ?kk1
      case hh1 =>
       first | (refine o_add trivial rfl rfl rfl ?_ ?_; (omega)) | refine oV ?_
       exact qF
      refine qO (i := 11) (qB 14 4095) rfl ?_;refine o_elemRow trivial rfl Tryz.underlying25 Tryz.sizeOf44 rfl (by repeat constructor) rfl (by omega) ?_;refine qM (Hp.Le.refl _) ?_;refine qT (i := 12) (qB 14 8191) (Hp.Le.refl _) rfl rfl (oF 1 Tryz.underlying44 Tryz.sizeOf3 qF) ?_;refine qO (i := 13) (qB 14 16383) rfl ?_;refine o_storeRow (xs' := (nds ((mixL (shV ((nds ns).length : Nat)) ns ms k).set (ns.length + k) (aV ((nds ns).length : Nat) o))).flatten) trivial rfl rfl rfl Tryz.sizeOf3 rfl rfl (by repeat constructor) (by decide) (by omega) (by rw [Int.toNat_natCast]; exact node_put hat (by decide) (aV_ge (by omega))) ?_;refine qM (Hp.Le.refl _) ?_;refine h_end (by kernel_rfl) ?_
      first | exact meet () (sC rfl (sC rfl (sC rfl (sC rfl (sC rfl (sC rfl sN)))))) (fun _ h => h.sort (by repeat constructor)) trivial | exact meet () (sC rfl (sC rfl (sC rfl (sC rfl (sC rfl (sC rfl sN)))))) (fun _ h => by rw [aV_lt (by omega), set_same hat]; exact h.sort (by repeat constructor)) trivial
     have f4 := h4;try simp only [bl] at f4
     refine cK ?_
     first | exact meet () (sC rfl (sC rfl (sC rfl (sC rfl (sC rfl (sC rfl sN)))))) (fun _ h => h.sort (by repeat constructor)) trivial | exact meet () (sC rfl (sC rfl (sC rfl (sC rfl (sC rfl (sC rfl sN)))))) (fun _ h => by rw [aV_lt (by omega), set_same hat]; exact h.sort (by repeat constructor)) trivial
    rintro z _
    try dsimp only
    refine sR ?_;refine oF 3 Tryz.underlying27 Tryz.sizeOf25 ?_;refine oL Tryz.isAgg25 ?_;refine oV ?_;refine o_elemRow trivial rfl Tryz.underlying25 Tryz.sizeOf44 rfl (by repeat constructor) rfl (by omega) ?_;refine oF 0 Tryz.underlying44 Tryz.sizeOf3 ?_;refine o_loadRow1 trivial rfl Tryz.isAgg3 (by repeat constructor) rfl (by rw [Int.toNat_natCast]; exact node_get (y := .int .i64 o.c.kind) hatA rfl) ?_;refine oV ?_;refine' o_and trivial trivial rfl rfl rfl rfl rfl rfl rfl rfl (fun hb118 => ?_) ?_;rotate_left
    ·
     have fb118 := hb118
     try simp only [bl] at fb118
     refine gF hb118 3 Tryz.underlying27 Tryz.sizeOf25 ?_;refine gL hb118 Tryz.isAgg25 ?_;refine gV hb118 ?_;refine o_elemRow (wS rfl rfl hb118) rfl Tryz.underlying25 Tryz.sizeOf44 rfl (by repeat constructor) rfl (by omega) ?_;refine gF hb118 0 Tryz.underlying44 Tryz.sizeOf3 ?_;refine o_loadRow1 (wS rfl rfl hb118) rfl Tryz.isAgg3 (by repeat constructor) rfl (by rw [Int.toNat_natCast]; exact node_get (y := .int .i64 o.c.kind) hatA rfl) ?_;refine gV hb118 ?_;refine oN ?_;exact joins rfl
    refine nT ?_;refine cC rfl (fun h5 => ?_) (fun h5 => ?_)
    ·
     have f5 := h5;try simp only [bl] at f5
     have q5 : 2 ≤ o.c.kind ∧ o.c.kind ≤ 5 := f5
     obtain ⟨q1, q2, q3⟩ := hlo (by omega)
     have q4 := q3 q5.2
     refine h_beginB (m := 14) [.box b8 _] (by repeat constructor) (by kernel_rfl) rfl ?_;refine qT (i := 0) (qB 14 1) (Hp.Le.refl _) rfl rfl (oF 3 Tryz.underlying27 Tryz.sizeOf25 qF) ?_;refine qT (i := 1) (qB 14 3) (Hp.Le.refl _) rfl rfl (oL Tryz.isAgg25 qF) ?_;refine qT (i := 2) (qB 14 7) (Hp.Le.refl _) rfl rfl (oV qF) ?_;refine qT (i := 3) (qB 14 15) (Hp.Le.refl _) rfl rfl (oF 3 Tryz.underlying27 Tryz.sizeOf25 qF) ?_;refine qT (i := 4) (qB 14 31) (Hp.Le.refl _) rfl rfl (oL Tryz.isAgg25 qF) ?_;refine qT (i := 5) (qB 14 63) (Hp.Le.refl _) rfl rfl (oV qF) ?_;refine qT (i := 9) (qB 14 575) (Hp.Le.refl _) rfl rfl (oV qF) ?_;refine qO (i := 6) (qB 14 639) rfl ?_;refine o_elemRow trivial rfl Tryz.underlying25 Tryz.sizeOf44 rfl (by repeat constructor) rfl (by omega) ?_;refine qM (Hp.Le.refl _) ?_;refine qT (i := 7) (qB 14 767) (Hp.Le.refl _) rfl rfl (oF 2 Tryz.underlying44 Tryz.sizeOf3 qF) ?_;refine qO (i := 8) (qB 14 1023) rfl ?_;refine o_loadRow1 trivial rfl Tryz.isAgg3 (by repeat constructor) rfl (by rw [Int.toNat_natCast]; exact node_get (y := .int .i64 o.c.b) hatA rfl) ?_;refine qM (Hp.Le.refl _) ?_;refine' qT (i := 10) (qB 14 2047) (Hp.Le.refl _) rfl rfl ?hh2 ?kk2
     case hh2 =>
      first | (refine o_add trivial rfl rfl rfl ?_ ?_; (omega)) | refine oV ?_
      exact qF
     refine qO (i := 11) (qB 14 4095) rfl ?_;refine o_elemRow trivial rfl Tryz.underlying25 Tryz.sizeOf44 rfl (by repeat constructor) rfl (by omega) ?_;refine qM (Hp.Le.refl _) ?_;refine qT (i := 12) (qB 14 8191) (Hp.Le.refl _) rfl rfl (oF 2 Tryz.underlying44 Tryz.sizeOf3 qF) ?_;refine qO (i := 13) (qB 14 16383) rfl ?_;refine o_storeRow (xs' := (nds ((mixL (shV ((nds ns).length : Nat)) ns ms k).set (ns.length + k) (shV ((nds ns).length : Nat) o))).flatten) trivial rfl rfl rfl Tryz.sizeOf3 rfl rfl (by repeat constructor) (by decide) (by omega) (by rw [Int.toNat_natCast]; have h9 := node_put hatA (f := 2) (o' := shV ((nds ns).length : Nat) o) (by decide) (shV_set q5); rw [List.set_set] at h9; exact h9) ?_;refine qM (Hp.Le.refl _) ?_;refine h_end (by kernel_rfl) ?_;refine blk_n (tC (cR ?_));refine oV ?_
     first | (refine o_add trivial rfl rfl rfl ?_ ?_; (omega)) | refine oV ?_
     refine oV ?_;refine oN ?_
     first | exact again (ns.length + k + 1) (sC rfl (sC rfl (sC rfl (sC rfl (sC rfl (sC rfl sN)))))) (fun _ h => by rw [show ns.length + k + 1 - ns.length = k + 1 by omega, ← mix_set hc, shV_aV q5]; exact h.sort (by repeat constructor)) (by show ns.length + ms.length - (ns.length + k + 1) < ns.length + ms.length - (ns.length + k); omega) ⟨by show ns.length ≤ ns.length + k + 1; omega, by show ns.length + k + 1 ≤ _; omega⟩ | exact again (ns.length + k + 1) (sC rfl (sC rfl (sC rfl (sC rfl (sC rfl (sC rfl sN)))))) (fun _ h => by rw [show ns.length + k + 1 - ns.length = k + 1 by omega, ← mix_set hc]; exact h.sort (by repeat constructor)) (by show ns.length + ms.length - (ns.length + k + 1) < ns.length + ms.length - (ns.length + k); omega) ⟨by show ns.length ≤ ns.length + k + 1; omega, by show ns.length + k + 1 ≤ _; omega⟩
    have f5 := h5;try simp only [bl] at f5
    have q5 : ¬ (2 ≤ o.c.kind ∧ o.c.kind ≤ 5) := by omega
    refine cK (blk_n (tC (cR ?_)));refine oV ?_
    first | (refine o_add trivial rfl rfl rfl ?_ ?_; (omega)) | refine oV ?_
    refine oV ?_;refine oN ?_
    first | exact again (ns.length + k + 1) (sC rfl (sC rfl (sC rfl (sC rfl (sC rfl (sC rfl sN)))))) (fun _ h => by rw [show ns.length + k + 1 - ns.length = k + 1 by omega, ← mix_set hc, shV_aV q5]; exact h.sort (by repeat constructor)) (by show ns.length + ms.length - (ns.length + k + 1) < ns.length + ms.length - (ns.length + k); omega) ⟨by show ns.length ≤ ns.length + k + 1; omega, by show ns.length + k + 1 ≤ _; omega⟩ | exact again (ns.length + k + 1) (sC rfl (sC rfl (sC rfl (sC rfl (sC rfl (sC rfl sN)))))) (fun _ h => by rw [show ns.length + k + 1 - ns.length = k + 1 by omega, ← mix_set hc]; exact h.sort (by repeat constructor)) (by show ns.length + ms.length - (ns.length + k + 1) < ns.length + ms.length - (ns.length + k); omega) ⟨by show ns.length ≤ ns.length + k + 1; omega, by show ns.length + k + 1 ≤ _; omega⟩
   have f3 := h3;try simp only [bl] at f3
   have hin : i - ns.length = ms.length := by omega
   rw [hin, mix_all (Nat.le_refl _)]
   refine c_exit (then_x (then_x (blk_eq rfl (tC (cS ?_)))));refine c_seal (xss := nds (ns ++ ms.map (shV ((nds ns).length : Nat)))) (by rw [nds_len]; simp; omega) (nds_8 _) (by unfold maxLen; omega) (fun I1 hx1 hsA => ?_);refine c_seal (xss := (p.lets ++ q.lets.map (shL ((nds ns).length : Nat))).map LetC.cells) (by simp) (lcs_two _) (by unfold maxLen; omega) (fun I2 hx2 hsL => ?_)
   have hxl := hx1.le.trans hx2.le
   have hRa2 := hRa.le hxl
   have hRb2 := hRb.le hxl
   have hN : (((nds ns).length : Nat) : Int) = (p.all.length : Nat) := by omega
   rw [hN] at hsA hsL
   have hj : ProgV I2 vi v47 uo v55 (joinP p q) (ns ++ ms.map (shV (p.all.length : Nat))) := ⟨hpi.le hxl, hsL, hqo.le hxl, hsA.le hx2.le, fun o ho => by
     rcases List.mem_append.1 ho with ho | ho
     · exact (hp.ok o ho).le hxl
     · obtain ⟨o', ho', rfl⟩ := List.mem_map.1 ho
       exact (hq.ok o' ho').le hxl, by rw [List.map_append, shV_c, hp.eq, hq.eq]; rfl⟩
   have hjf : ∀ o ∈ ns ++ ms.map (shV (p.all.length : Nat)), o.c.few 100000 := fun o ho => by
     rcases List.mem_append.1 ho with ho | ho
     · exact few_up (m5 o ho) (by decide)
     · obtain ⟨o', ho', rfl⟩ := List.mem_map.1 ho
       have h9 := k5 o' ho'
       exact ⟨Nat.le_trans h9.1 (by decide), Nat.le_trans h9.2 (by decide)⟩
   refine c_quiet (by kernel_rfl) (by kernel_rfl) (fun _ h => h.drawn) ?_;refine oA Tryz.isAgg27 Tryz.sizeOf27 ?_;refine oQ Tryz.call24 rfl (rrHead_any hRa2) ?_;refine oA Tryz.isAgg27 Tryz.sizeOf27 ?_;refine oQ Tryz.call25 rfl (rrBody_any hRa2) ?_;refine o_cat trivial rfl rfl rfl (by first | omega | (simp only [ByteArray.size_append, lit_size, strOf_size, List.length_replicate, List.size_toArray, List.length_cons, List.length_nil]; omega) | (simp; omega)) ?_;refine oA Tryz.isAgg27 Tryz.sizeOf27 ?_;refine oQ Tryz.call25 rfl (rrBody_any hRb2) ?_;refine o_cat trivial rfl rfl rfl (by first | omega | (simp only [ByteArray.size_append, lit_size, strOf_size, List.length_replicate, List.size_toArray, List.length_cons, List.length_nil]; omega) | (simp; omega)) ?_;refine oA Tryz.isAgg27 Tryz.sizeOf27 ?_;refine oQ Tryz.call26 rfl (rrTail_any hRb2) ?_;refine o_cat trivial rfl rfl rfl (by first | omega | (simp only [ByteArray.size_append, lit_size, strOf_size, List.length_replicate, List.size_toArray, List.length_cons, List.length_nil]; omega) | (simp; omega)) ?_;refine oV ?_;refine oN (tC (cS ?_))
   rw [← join_text (a := p) (b := q)]
   have hjt := text_parse hrj hjc
   have hjz : (joinZ (progK (joinP p q).ins (joinP p q).outs (la ++ lb))).size ≤ 60000 := by
     have h8 := progK_len (joinP p q).ins (joinP p q).outs (la ++ lb)
     have h9 := joinZ_size _ (progK_good hrj.ins.1 hrj.ok hrj.outs.1)
     rw [← hrj.all] at h8
     have h7 : (joinP p q).lets.length = (la ++ lb).length := by rw [hrj.lets, laid_lets]
     have := hjc.1; have := hjc.2.1; have := hjc.2.2.1; have := hjc.2.2.2
     omega
   have hjp := parse_any _ (I := I2) (hT.le hxl) (hM.le hxl) (hE.le hxl) hjz
   rw [hjt] at hjp
   refine cR ?_;refine oV ?_;refine oI Tryz.call15 rfl hjp ?_;rintro _ I3 hx3 ⟨wi, wl, wo, wa, ls, rfl, hw8, _⟩;refine oV ?_
   have hw8 : ProgV I3 wi wl wo wa (joinP p q) ls := hw8
   have hwi := hw8.si
   have hwl := hw8.sl
   have hwo := hw8.so
   have hwa := hw8.sa
   iterate 3 refine oV ?_
   refine o_alloc trivial rfl Tryz.zeroValue27 rfl (fun b13 => ?_);refine o_alloc trivial rfl Tryz.zeroValue29 rfl (fun b14 => ?_);refine oS Tryz.sizeOf27 ?_;refine oS Tryz.sizeOf29 ?_;refine oV ?_;refine nS ?_;refine oV ?_;refine' o_and trivial trivial rfl rfl rfl rfl rfl rfl rfl rfl (fun hb158 => ?_) ?_;rotate_left
   ·
    iterate 2 refine gV hb158 ?_
    refine oN ?_;exact joins rfl
   refine' o_and trivial trivial rfl rfl rfl rfl rfl rfl rfl rfl (fun hb162 => ?_) ?_;rotate_left
   ·
    have fb162 := hb162
    try simp only [bl] at fb162
    iterate 2 refine o_loadA (wS rfl rfl hb162) rfl Tryz.isAgg27 Tryz.sizeOf27 rfl (by repeat constructor) (by repeat constructor) ?_
    refine o_callQ (wS rfl rfl hb162) rfl Tryz.call17 rfl (rrSame_any wi wl wo wa vi v47 uo v55 (joinP p q) ls _ hw8 (hj.le hx3.le)) ?_;refine oN ?_;exact joins rfl
   refine' o_and trivial trivial rfl rfl rfl rfl rfl rfl rfl rfl (fun hb167 => ?_) ?_;rotate_left
   ·
    have fb167 := hb167
    try simp only [bl] at fb167
    refine o_loadA (wS rfl rfl hb167) rfl Tryz.isAgg27 Tryz.sizeOf27 rfl (by repeat constructor) (by repeat constructor) ?_;refine o_callQ (wS rfl rfl hb167) rfl Tryz.call21 rfl (trRight_any vi v47 uo v55 (joinP p q) _ (hj.le hx3.le) hjf) ?_;refine oN ?_;exact joins rfl
   refine oV ?_;refine nE ?_;refine ret1 rfl rfl ?_
   first | exact leaf0 rfl | (refine leaf (hx1.trans (hx2.trans hx3 (Nat.le_refl _)) (Nat.le_refl _)) (List.nil_sublist _) (congrArg Value.bool ?_); rw [tZ_right hrj]; done) | (refine leaf (hx1.trans (hx2.trans hx3 (Nat.le_refl _)) (Nat.le_refl _)) (List.nil_sublist _) (congrArg Value.bool ?_); rw [tZ_right hrj]; simp)
  refine cR ?_;refine oA Tryz.isAgg27 Tryz.sizeOf27 ?_;refine o_call0 trivial rfl Tryz.call19 rfl (rrRightG_any vi vl vo va p ns hp hf) ?_;rintro _ ⟨rb, rfl, hrb⟩;refine o_fork trivial rfl rfl (fun hb25 => ?_) (fun hb25 => ?_)
  ·
   have fb25 := hb25
   try simp only [bl] at fb25
   refine o_loadA (wS rfl rfl rfl) rfl Tryz.isAgg27 Tryz.sizeOf27 rfl (by repeat constructor) (by repeat constructor) ?_;refine o_call0 (wS rfl rfl rfl) rfl Tryz.call19 rfl (rrRightG_any ui ul uo ua q ms hq hf2) ?_;rintro _ ⟨rc, rfl, hrc⟩;iterate 2 refine oV ?_
   refine nU ?_;iterate 2 refine oV ?_
   refine' o_or trivial trivial rfl rfl rfl rfl rfl rfl rfl rfl (fun hb31 => ?_) ?_;rotate_left
   ·
    have fb31 := hb31
    try simp only [bl] at fb31
    iterate 2 refine gV hb31 ?_
    refine oN ?_;exact joins rfl
   refine nT ?_;refine cC rfl (fun h1 => ?_) (fun h1 => ?_)
   ·
    have f1 := h1;try simp only [bl] at f1
    refine sR ?_;iterate 2 refine oV ?_
    refine nF ?_;refine ret1 rfl rfl ?_
    first | exact leaf0 rfl | (refine leaf (hx1.trans (hx2.trans hx3 (Nat.le_refl _)) (Nat.le_refl _)) (List.nil_sublist _) (congrArg Value.bool ?_); rw [tZ_right hrj]; done) | (refine leaf (hx1.trans (hx2.trans hx3 (Nat.le_refl _)) (Nat.le_refl _)) (List.nil_sublist _) (congrArg Value.bool ?_); rw [tZ_right hrj]; simp)
   have f1 := h1;try simp only [bl] at f1
   exfalso; first | (simp at h1; done) | (simp at h1; exact hfw h1.1)
  have fb25 := hb25
  try simp only [bl] at fb25
  iterate 2 refine o_skip (skips_some rfl rfl rfl) rfl ?_
  iterate 2 refine oV ?_
  refine nU ?_;iterate 2 refine oV ?_
  refine' o_or trivial trivial rfl rfl rfl rfl rfl rfl rfl rfl (fun hb31 => ?_) ?_;rotate_left
  ·
   have fb31 := hb31
   try simp only [bl] at fb31
   iterate 2 refine gV hb31 ?_
   refine oN ?_;exact joins rfl
  refine nT ?_;refine cC rfl (fun h1 => ?_) (fun h1 => ?_)
  ·
   have f1 := h1;try simp only [bl] at f1
   refine sR ?_;iterate 2 refine oV ?_
   refine nF ?_;refine ret1 rfl rfl ?_
   first | exact leaf0 rfl | (refine leaf (hx1.trans (hx2.trans hx3 (Nat.le_refl _)) (Nat.le_refl _)) (List.nil_sublist _) (congrArg Value.bool ?_); rw [tZ_right hrj]; done) | (refine leaf (hx1.trans (hx2.trans hx3 (Nat.le_refl _)) (Nat.le_refl _)) (List.nil_sublist _) (congrArg Value.bool ?_); rw [tZ_right hrj]; simp)
  have f1 := h1;try simp only [bl] at f1
  exfalso; first | (simp at h1; done) | (simp at h1; exact hfw h1.1)
end Go.Proofs.YtmgpifkekofacaaGreatDoor
namespace Go.Tw
open Go Go.RowKit Go.ChangeShapes Go.WideShapes Go.ChangeAt Go.Deep
def Tr {H : Type} (enc : TypeId × Value → H) (P : Program) (W : World) (t : TypeId) (cs : List Value) : Prop := ∃ n x, DataW.trod enc P W 0 (fun _ => true) true n t cs = some x
section
variable {base : Nat} {H : Type} {enc : TypeId × Value → H} {P : Program} {W : World} {t e : TypeId} {v : Value} {cs : List Value} {d : DataW H} {ps : List MemPlace}
theorem tr_int {k : IntKind} (ht : P.underlying t = some (.int k)) (h : Tr enc P W t [v]) : ∃ z, v = .int k z ∧ (Lit.int k z).wf = true := by
  obtain ⟨n, x, h⟩ := h
  obtain ⟨z, h1, _, h2⟩ := DataW.trod_int ht h
  exact ⟨z, (List.cons.inj h1).1, h2⟩
theorem tr_bool (ht : P.underlying t = some .bool) (h : Tr enc P W t [v]) : ∃ b, v = .bool b := by
  obtain ⟨n, x, h⟩ := h
  obtain ⟨z, h1, _⟩ := DataW.trod_bool ht h
  exact ⟨z, (List.cons.inj h1).1⟩
theorem tr_string (ht : P.underlying t = some .string) (h : Tr enc P W t [v]) : ∃ s : ByteArray, v = .string s ∧ s.size ≤ maxLen := by
  obtain ⟨n, x, h⟩ := h
  obtain ⟨z, h1, _, h2⟩ := DataW.trod_string ht h
  exact ⟨z, (List.cons.inj h1).1, h2⟩
theorem tr_struct {fs : Array Field} (ht : P.underlying t = some (.struct fs)) (h : Tr enc P W t cs) : cs.length = P.cellsOf t ∧ ∀ (i : Nat) (f : Field), fs[i]? = some f → Tr enc P W f.type ((cs.drop f.offset).take (P.cellsOf f.type)) := by
  obtain ⟨n, x, h⟩ := h
  obtain ⟨xs, m, _, _, hl, hx, hf⟩ := DataW.trod_struct ht h
  refine ⟨hl, fun i f hi => ?_⟩
  have h1 := hf i f hi
  have hlt : i < xs.length := by rw [hx]; exact (Array.getElem?_eq_some_iff.1 hi).1
  rw [List.getElem?_eq_getElem hlt] at h1
  exact ⟨m, _, h1⟩
theorem tr_rows {sz : Nat} (ht : P.underlying t = some (.slice e)) (hsz : P.cellsOf e = sz) (hpos : 0 < sz) (h : Tr enc P W t [v]) : ∃ xss : List (List Value), Slc (World.hp W) sz v xss ∧ ∀ c ∈ xss, Tr enc P W e c := by
  obtain ⟨n, x, h⟩ := h
  rcases open_slice ht h with ⟨h1, _⟩ | ⟨a, len, cap, m, n', D, Pl, h1, hb, hl, hc, hm, _, hx⟩
  · obtain rfl := (List.cons.inj h1).1
    exact ⟨[], Slc.nil _ _, fun c hc => by cases hc⟩
  · obtain rfl := (List.cons.inj h1).1
    subst hsz
    simp only [if_true] at hm
    subst hm
    obtain ⟨G, hG⟩ := choose_lt (α := List Value) (p := fun i cs' => W.cells? 0 (a.add (i * P.cellsOf e)) (P.cellsOf e) = some cs' ∧ DataW.trod enc P W 0 (fun _ => true) true n' e cs' = some (D i, Pl i)) hx
    have hcell : ∀ i, i < m → (G i).length = P.cellsOf e ∧ ∀ k, k < P.cellsOf e → W.cell? (a.add (i * P.cellsOf e + k)) = (G i)[k]? := fun i hi => by
      obtain ⟨h2, h3, h4⟩ := World.cells?_some (hG i hi).1
      refine ⟨h3, fun k hk => ?_⟩
      rw [← h4 k hk, add_add]
    refine ⟨(List.range len).map G, ?_, fun c hc => ?_⟩
    · have hlen : ((List.range len).map G).length = len := by simp
      have hlens : ∀ c ∈ (List.range len).map G, c.length = P.cellsOf e := fun c hc => by
        obtain ⟨i, hi, rfl⟩ := List.mem_map.1 hc
        exact (hcell i (by have := List.mem_range.1 hi; omega)).1
      by_cases h0 : m = 0
      · have hl0 : len = 0 := by omega
        subst h0
        subst hl0
        exact Slc.nilA _ _ _
      · have hsp : a.spot = none := by
          have h2 := (hcell 0 (by omega)).2 0 hpos
          have h3 : 0 < (G 0).length := by rw [(hcell 0 (by omega)).1]; exact hpos
          rw [List.getElem?_eq_getElem h3] at h2
          unfold World.cell? at h2
          split at h2
          · split at h2
            · cases h2
            · rename_i hs
              have hz : a.add (0 * P.cellsOf e + 0) = a := by rw [Nat.zero_mul]; unfold Addr.add; simp
              rw [hz] at hs
              cases hsp : a.spot with
              | none => rfl
              | some s => rw [hsp] at hs; simp at hs
          · cases h2
        obtain ⟨b, off, s⟩ := a
        change s = none at hsp
        subst hsp
        refine ⟨.inr ⟨b, off, m, by rw [hlen], by rw [hlen]; exact hl⟩, fun j c hj k u hk => ?_, hlens, by rw [hlen]; omega⟩
        rw [List.getElem?_map] at hj
        have hjl : j < len := by
          by_cases hjl : j < len
          · exact hjl
          · rw [List.getElem?_eq_none (by simp; omega)] at hj; cases hj
        rw [List.getElem?_range hjl] at hj
        cases hj
        have hkl := (List.getElem?_eq_some_iff.1 hk).1
        rw [(hcell j (by omega)).1] at hkl
        have h2 := (hcell j (by omega)).2 k hkl
        rw [hk, add_none] at h2
        rw [hp_cell]
        simp only [slcB, slcO]
        rw [Nat.add_assoc]
        exact h2
    · obtain ⟨i, hi, rfl⟩ := List.mem_map.1 hc
      exact ⟨n', _, (hG i (by have := List.mem_range.1 hi; omega)).2⟩
theorem tr_ints {k : IntKind} {xss : List (List Value)} {sz : Nat} (ht : P.underlying t = some (.int k)) (hs : Slc (World.hp W) 1 v xss) (h : ∀ c ∈ xss, Tr enc P W t c) : ∃ zs : List Int, xss = zs.map (fun z => [.int k z]) ∧ ∀ z ∈ zs, (Lit.int k z).wf = true := by
  have key : ∀ (l : List (List Value)), (∀ c ∈ l, c.length = 1 ∧ Tr enc P W t c) → ∃ zs : List Int, l = zs.map (fun z => [.int k z]) ∧ ∀ z ∈ zs, (Lit.int k z).wf = true := by
    intro l
    induction l with
    | nil => exact fun _ => ⟨[], rfl, fun z hz => by cases hz⟩
    | cons c l ih =>
      intro hl
      obtain ⟨zs, h1, h2⟩ := ih fun c hc => hl c (List.mem_cons_of_mem _ hc)
      obtain ⟨h3, h4⟩ := hl c List.mem_cons_self
      match c, h3 with
      | [x], _ =>
        obtain ⟨z, rfl, h5⟩ := tr_int ht h4
        exact ⟨z :: zs, by rw [h1]; rfl, fun y hy => by
          rcases List.mem_cons.1 hy with rfl | hy
          · exact h5
          · exact h2 y hy⟩
  exact key xss fun c hc => ⟨hs.lens c hc, h c hc⟩
theorem rows_map {α : Type} {f : α → List Value} {p : α → Prop} {xss : List (List Value)} (h : ∀ c ∈ xss, ∃ a, c = f a ∧ p a) : ∃ zs : List α, xss = zs.map f ∧ ∀ a ∈ zs, p a := by
  induction xss with
  | nil => exact ⟨[], rfl, fun a h => by cases h⟩
  | cons c l ih =>
    obtain ⟨zs, h1, h2⟩ := ih fun c hc => h c (List.mem_cons_of_mem _ hc)
    obtain ⟨a, ha, hp⟩ := h c List.mem_cons_self
    exact ⟨a :: zs, by rw [ha, h1]; rfl, fun b hb => by
      rcases List.mem_cons.1 hb with rfl | hb
      · exact hp
      · exact h2 b hb⟩
end
end Go.Tw
namespace Go.Tw
open Go Go.RowKit Go.ChangeShapes Go.WideShapes Go.ChangeAt Go.Deep
def TrB {H : Type} (enc : TypeId × Value → H) (P : Program) (W : World) (t : TypeId) (cs : List Value) : Prop := ∃ n x, DataW.trod enc P W 0 (fun _ => true) true n t cs = some x ∧ ∀ k ∈ x.1.weights P t, k ≤ reachBytes
section
variable {base : Nat} {H : Type} {enc : TypeId × Value → H} {P : Program} {W : World} {t e : TypeId} {v : Value} {cs : List Value} {d : DataW H} {ps : List MemPlace}
theorem TrB.tr (h : TrB enc P W t cs) : Tr enc P W t cs := by
  obtain ⟨n, x, h, _⟩ := h
  exact ⟨n, x, h⟩
theorem each_mem {ts : List TypeId} {ds : List (DataW H)} {i : Nat} {k : Nat} (h1 : ts[i]? = some t) (h2 : ds[i]? = some d) (h : k ∈ d.weights P t) : k ∈ DataW.weightsEach P ts ds := by
  induction ts generalizing ds i with
  | nil => cases h1
  | cons a ts ih =>
    cases ds with
    | nil => cases h2
    | cons b ds =>
      unfold DataW.weightsEach
      cases i with
      | zero => cases h1; cases h2; exact List.mem_append_left _ h
      | succ i => exact List.mem_append_right _ (ih h1 h2)
theorem all_mem {ds : List (DataW H)} {k : Nat} (h2 : d ∈ ds) (h : k ∈ d.weights P e) : k ∈ DataW.weightsAll P e ds := by
  induction ds with
  | nil => cases h2
  | cons b ds ih =>
    unfold DataW.weightsAll
    rcases List.mem_cons.1 h2 with rfl | h2
    · exact List.mem_append_left _ h
    · exact List.mem_append_right _ (ih h2)
theorem trB_of_struct {fs : Array Field} (ht : P.underlying t = some (.struct fs)) (hval : Value.okWide P W .any base t v) (h : DataW.Trod enc P W 0 (fun _ => true) true t v d ps) (hw : ∀ k ∈ d.weights P t, k ≤ reachBytes) : ∃ cs : List Value, v = .agg cs.toArray ∧ TrB enc P W t cs := by
  obtain ⟨cs, rfl, _⟩ := okWide_struct ht hval
  obtain ⟨n, h⟩ := h
  exact ⟨cs.toList, by simp, n, _, h, hw⟩
theorem trB_struct {fs : Array Field} (ht : P.underlying t = some (.struct fs)) (h : TrB enc P W t cs) : cs.length = P.cellsOf t ∧ ∀ (i : Nat) (f : Field), fs[i]? = some f → TrB enc P W f.type ((cs.drop f.offset).take (P.cellsOf f.type)) := by
  obtain ⟨n, x, h, hw⟩ := h
  obtain ⟨xs, m, _, rfl, hl, hx, hf⟩ := DataW.trod_struct ht h
  refine ⟨hl, fun i f hi => ?_⟩
  have h1 := hf i f hi
  have hlt : i < xs.length := by rw [hx]; exact (Array.getElem?_eq_some_iff.1 hi).1
  rw [List.getElem?_eq_getElem hlt] at h1
  refine ⟨m, _, h1, fun k hk => hw k ?_⟩
  unfold DataW.weights
  simp only [ht]
  refine each_mem (i := i) (t := f.type) (d := xs[i].1) ?_ ?_ hk
  · rw [List.getElem?_map, Array.getElem?_toList, hi]; rfl
  · rw [List.getElem?_map, List.getElem?_eq_getElem hlt]; rfl
theorem trB_rows {sz : Nat} (ht : P.underlying t = some (.slice e)) (hsz : P.cellsOf e = sz) (hpos : 0 < sz) (h : TrB enc P W t [v]) : ∃ xss : List (List Value), Slc (World.hp W) sz v xss ∧ (∀ c ∈ xss, TrB enc P W e c) ∧ xss.length * P.bytesOf e ≤ reachBytes := by
  obtain ⟨n, x, h, hw⟩ := h
  rcases open_slice ht h with ⟨h1, _⟩ | ⟨a, len, cap, m, n', D, Pl, h1, hb, hl, hc, hm, hxx, hx⟩
  · obtain rfl := (List.cons.inj h1).1
    exact ⟨[], Slc.nil _ _, (fun c hc => by cases hc), by simp⟩
  · obtain rfl := (List.cons.inj h1).1
    subst hsz
    simp only [if_true] at hm
    subst hm
    subst hxx
    unfold DataW.weights at hw
    simp only [ht] at hw
    obtain ⟨G, hG⟩ := choose_lt (α := List Value) (p := fun i cs' => W.cells? 0 (a.add (i * P.cellsOf e)) (P.cellsOf e) = some cs' ∧ DataW.trod enc P W 0 (fun _ => true) true n' e cs' = some (D i, Pl i)) hx
    have hcell : ∀ i, i < m → (G i).length = P.cellsOf e ∧ ∀ k, k < P.cellsOf e → W.cell? (a.add (i * P.cellsOf e + k)) = (G i)[k]? := fun i hi => by
      obtain ⟨h2, h3, h4⟩ := World.cells?_some (hG i hi).1
      refine ⟨h3, fun k hk => ?_⟩
      rw [← h4 k hk, add_add]
    refine ⟨(List.range len).map G, ?_, fun c hc => ?_, ?_⟩
    · have hlen : ((List.range len).map G).length = len := by simp
      have hlens : ∀ c ∈ (List.range len).map G, c.length = P.cellsOf e := fun c hc => by
        obtain ⟨i, hi, rfl⟩ := List.mem_map.1 hc
        exact (hcell i (by have := List.mem_range.1 hi; omega)).1
      by_cases h0 : m = 0
      · have hl0 : len = 0 := by omega
        subst h0
        subst hl0
        exact Slc.nilA _ _ _
      · have hsp : a.spot = none := by
          have h2 := (hcell 0 (by omega)).2 0 hpos
          have h3 : 0 < (G 0).length := by rw [(hcell 0 (by omega)).1]; exact hpos
          rw [List.getElem?_eq_getElem h3] at h2
          unfold World.cell? at h2
          split at h2
          · split at h2
            · cases h2
            · rename_i hs
              have hz : a.add (0 * P.cellsOf e + 0) = a := by rw [Nat.zero_mul]; unfold Addr.add; simp
              rw [hz] at hs
              cases hsp : a.spot with
              | none => rfl
              | some s => rw [hsp] at hs; simp at hs
          · cases h2
        obtain ⟨b, off, s⟩ := a
        change s = none at hsp
        subst hsp
        refine ⟨.inr ⟨b, off, m, by rw [hlen], by rw [hlen]; exact hl⟩, fun j c hj k u hk => ?_, hlens, by rw [hlen]; omega⟩
        rw [List.getElem?_map] at hj
        have hjl : j < len := by
          by_cases hjl : j < len
          · exact hjl
          · rw [List.getElem?_eq_none (by simp; omega)] at hj; cases hj
        rw [List.getElem?_range hjl] at hj
        cases hj
        have hkl := (List.getElem?_eq_some_iff.1 hk).1
        rw [(hcell j (by omega)).1] at hkl
        have h2 := (hcell j (by omega)).2 k hkl
        rw [hk, add_none] at h2
        rw [hp_cell]
        simp only [slcB, slcO]
        rw [Nat.add_assoc]
        exact h2
    · obtain ⟨i, hi, rfl⟩ := List.mem_map.1 hc
      have hil := List.mem_range.1 hi
      refine ⟨n', _, (hG i (by omega)).2, fun k hk => hw k (List.mem_cons_of_mem _ (List.mem_append_left _ ?_))⟩;exact all_mem (List.mem_map.2 ⟨i, hi, rfl⟩) hk
    · have h9 := hw _ List.mem_cons_self
      refine Nat.le_trans (Nat.mul_le_mul_right _ ?_) h9
      simp
end
end Go.Tw
namespace Go.Proofs.YtmgpifkekofacaaGreatDoor
open Go Go.Tw Go.ChangeShapes Go.WideShapes Go.ChangeAt
set_option maxRecDepth 100000
section
variable {base : Nat} {H : Type} {enc : TypeId × Value → H} {W : World} {v : Value} {cs : List Value} {d : DataW H} {ps : List MemPlace}
theorem ce_int : Tryz.prog.cellsOf 3 = 1 := by kernel_rfl
theorem ce_bool : Tryz.prog.cellsOf 4 = 1 := by kernel_rfl
theorem ce_str : Tryz.prog.cellsOf 9 = 1 := by kernel_rfl
theorem ce_u32 : Tryz.prog.cellsOf 101 = 1 := by kernel_rfl
theorem ce_u32s : Tryz.prog.cellsOf 40 = 1 := by kernel_rfl
theorem ce_rat : Tryz.prog.cellsOf 42 = 3 := by kernel_rfl
theorem ce_node : Tryz.prog.cellsOf 44 = 8 := by kernel_rfl
theorem ce_let : Tryz.prog.cellsOf 46 = 2 := by kernel_rfl
theorem ce_prog : Tryz.prog.cellsOf 27 = 4 := by kernel_rfl
theorem ce_strs : Tryz.prog.cellsOf 23 = 1 := by kernel_rfl
theorem ce_lets : Tryz.prog.cellsOf 24 = 1 := by kernel_rfl
theorem ce_nodes : Tryz.prog.cellsOf 25 = 1 := by kernel_rfl
theorem of2 {l : List Value} (h : l.length = 2) : ∃ a b, l = [a, b] := by
  match l, h with
  | [a, b], _ => exact ⟨a, b, rfl⟩
theorem of3 {l : List Value} (h : l.length = 3) : ∃ a b c, l = [a, b, c] := by
  match l, h with
  | [a, b, c], _ => exact ⟨a, b, c, rfl⟩
theorem of4 {l : List Value} (h : l.length = 4) : ∃ a b c d, l = [a, b, c, d] := by
  match l, h with
  | [a, b, c, d], _ => exact ⟨a, b, c, d, rfl⟩
theorem of8 {l : List Value} (h : l.length = 8) : ∃ a b c d e f g i, l = [a, b, c, d, e, f, g, i] := by
  match l, h with
  | [a, b, c, d, e, f, g, i], _ => exact ⟨a, b, c, d, e, f, g, i, rfl⟩
theorem tr_let (h : Tr enc Tryz.prog W 46 cs) : ∃ o : LetC, cs = o.cells ∧ True := by
  obtain ⟨h1, h2⟩ := tr_struct Tryz.underlying46 h
  obtain ⟨a, b, rfl⟩ := of2 (by rw [h1]; exact ce_let)
  have k0 := h2 0 _ rfl
  have k1 := h2 1 _ rfl
  change Tr enc Tryz.prog W 9 (List.take (Tryz.prog.cellsOf 9) [a, b]) at k0
  change Tr enc Tryz.prog W 3 (List.take (Tryz.prog.cellsOf 3) [b]) at k1
  rw [ce_str] at k0
  rw [ce_int] at k1
  obtain ⟨s, rfl, _⟩ := tr_string Tryz.underlying9 k0
  obtain ⟨z, rfl, _⟩ := tr_int Tryz.underlying3 k1
  exact ⟨⟨s, z⟩, rfl, trivial⟩
theorem tr_strs (h : Tr enc Tryz.prog W 23 [v]) : ∃ l : List ByteArray, Slc (World.hp W) 1 v (scs l) := by
  obtain ⟨xss, s1, s2⟩ := tr_rows (sz := 1) Tryz.underlying23 ce_str (by decide) h
  obtain ⟨zs, rfl, _⟩ := rows_map (f := fun s : ByteArray => [Value.string s]) (p := fun _ => True) fun c hc => by
    have hl := s1.lens c hc
    match c, hl with
    | [x], _ =>
      obtain ⟨s, rfl, _⟩ := tr_string Tryz.underlying9 (s2 _ hc)
      exact ⟨s, rfl, trivial⟩
  exact ⟨zs, s1⟩
end
end Go.Proofs.YtmgpifkekofacaaGreatDoor
namespace Go.Proofs.YtmgpifkekofacaaGreatDoor
open Go Go.Tw Go.ChangeShapes Go.WideShapes Go.ChangeAt
set_option maxRecDepth 100000
section
variable {base : Nat} {H : Type} {enc : TypeId × Value → H} {W : World} {v : Value} {cs : List Value} {d : DataW H} {ps : List MemPlace}
theorem by_u32 : Tryz.prog.bytesOf 101 = 4 := by kernel_rfl
theorem trB_wds (h : TrB enc Tryz.prog W 40 [v]) : ∃ O, Ws (World.hp W) v O ∧ O.length ≤ 35184372088400 := by
  obtain ⟨xss, h1, h2, h4⟩ := trB_rows Tryz.underlying40 ce_u32 (by decide) h
  obtain ⟨zs, rfl, h3⟩ := tr_ints (sz := 1) Tryz.underlying101 h1 (fun c hc => (h2 c hc).tr)
  rw [by_u32, List.length_map] at h4
  unfold reachBytes at h4
  refine ⟨zs.map Int.toNat, ⟨?_, fun x hx => ?_⟩, by rw [List.length_map]; omega⟩
  · have e : wcs (zs.map Int.toNat) = zs.map (fun z => [Value.int .u32 z]) := by
      unfold wcs
      rw [List.map_map]
      refine List.map_congr_left fun z hz => ?_
      have := bounds_u32 (h3 z hz)
      show [Value.int .u32 ((z.toNat : Nat) : Int)] = _
      rw [Int.toNat_of_nonneg this.1]
    rw [e]; exact h1
  · obtain ⟨z, hz, rfl⟩ := List.mem_map.1 hx
    have := bounds_u32 (h3 z hz)
    omega
theorem trB_num (h : TrB enc Tryz.prog W 42 cs) : ∃ s n d b c, cs = [.bool s, b, c] ∧ Ws (World.hp W) b n ∧ Ws (World.hp W) c d ∧ n.length ≤ 35184372088400 ∧ d.length ≤ 35184372088400 := by
  obtain ⟨h1, h2⟩ := trB_struct Tryz.underlying42 h
  obtain ⟨a, b, c, rfl⟩ := of3 (by rw [h1]; exact ce_rat)
  have k0 := (h2 0 _ rfl).tr
  have k1 := h2 1 _ rfl
  have k2 := h2 2 _ rfl
  change Tr enc Tryz.prog W 4 (List.take (Tryz.prog.cellsOf 4) [a, b, c]) at k0
  change TrB enc Tryz.prog W 40 (List.take (Tryz.prog.cellsOf 40) [b, c]) at k1
  change TrB enc Tryz.prog W 40 (List.take (Tryz.prog.cellsOf 40) [c]) at k2
  rw [ce_bool] at k0
  rw [ce_u32s] at k1 k2
  obtain ⟨s, rfl⟩ := tr_bool Tryz.underlying4 k0
  obtain ⟨n, hn, hnl⟩ := trB_wds k1
  obtain ⟨dd, hd, hdl⟩ := trB_wds k2
  exact ⟨s, n, dd, b, c, rfl, hn, hd, hnl, hdl⟩
theorem trB_node (h : TrB enc Tryz.prog W 44 cs) : ∃ o : NodeV, cs = o.cells ∧ o.ok (World.hp W) ∧ o.c.few 35184372088400 := by
  obtain ⟨h1, h2⟩ := trB_struct Tryz.underlying44 h
  obtain ⟨a, b, c, d, e, f, g, i, rfl⟩ := of8 (by rw [h1]; exact ce_node)
  have k0 := (h2 0 _ rfl).tr
  have k1 := (h2 1 _ rfl).tr
  have k2 := (h2 2 _ rfl).tr
  have k3 := (h2 3 _ rfl).tr
  have k4 := (h2 4 _ rfl).tr
  have k5 := h2 5 _ rfl
  change Tr enc Tryz.prog W 3 (List.take (Tryz.prog.cellsOf 3) [a, b, c, d, e, f, g, i]) at k0
  change Tr enc Tryz.prog W 3 (List.take (Tryz.prog.cellsOf 3) [b, c, d, e, f, g, i]) at k1
  change Tr enc Tryz.prog W 3 (List.take (Tryz.prog.cellsOf 3) [c, d, e, f, g, i]) at k2
  change Tr enc Tryz.prog W 3 (List.take (Tryz.prog.cellsOf 3) [d, e, f, g, i]) at k3
  change Tr enc Tryz.prog W 9 (List.take (Tryz.prog.cellsOf 9) [e, f, g, i]) at k4
  change TrB enc Tryz.prog W 42 (List.take (Tryz.prog.cellsOf 42) [f, g, i]) at k5
  rw [ce_int] at k0 k1 k2 k3
  rw [ce_str] at k4
  rw [ce_rat] at k5
  obtain ⟨z0, rfl, b0⟩ := tr_int Tryz.underlying3 k0
  obtain ⟨z1, rfl, b1⟩ := tr_int Tryz.underlying3 k1
  obtain ⟨z2, rfl, b2⟩ := tr_int Tryz.underlying3 k2
  obtain ⟨z3, rfl, b3⟩ := tr_int Tryz.underlying3 k3
  obtain ⟨s, rfl, _⟩ := tr_string Tryz.underlying9 k4
  obtain ⟨ng, n, dd, vb, vc, hx, hn, hd, hnl, hdl⟩ := trB_num k5
  obtain ⟨rfl, h5⟩ := List.cons.inj hx
  obtain ⟨rfl, h6⟩ := List.cons.inj h5
  obtain ⟨rfl, _⟩ := List.cons.inj h6
  exact ⟨⟨⟨z0, z1, z2, z3, s, ng, n, dd⟩, g, i⟩, rfl, ⟨hn, hd⟩, hnl, hdl⟩
theorem open_Pb (hval : Value.okWide Tryz.prog W .any base 27 v) (h : DataW.Trod enc Tryz.prog W 0 (fun _ => true) true 27 v d ps) (hw : ∀ k ∈ d.weights Tryz.prog 27, k ≤ reachBytes) : ∃ (p : ProgC) (vi vl vo va : Value) (ns : List NodeV), v = .agg #[vi, vl, vo, va] ∧ ProgV (World.hp W) vi vl vo va p ns ∧ ∀ o ∈ ns, o.c.few 35184372088400 := by
  obtain ⟨cs, rfl, hh⟩ := trB_of_struct Tryz.underlying27 hval h hw
  obtain ⟨h1, h2⟩ := trB_struct Tryz.underlying27 hh
  obtain ⟨a, b, c, e, rfl⟩ := of4 (by rw [h1]; exact ce_prog)
  have k0 := (h2 0 _ rfl).tr
  have k1 := (h2 1 _ rfl).tr
  have k2 := (h2 2 _ rfl).tr
  have k3 := h2 3 _ rfl
  change Tr enc Tryz.prog W 23 (List.take (Tryz.prog.cellsOf 23) [a, b, c, e]) at k0
  change Tr enc Tryz.prog W 24 (List.take (Tryz.prog.cellsOf 24) [b, c, e]) at k1
  change Tr enc Tryz.prog W 23 (List.take (Tryz.prog.cellsOf 23) [c, e]) at k2
  change TrB enc Tryz.prog W 25 (List.take (Tryz.prog.cellsOf 25) [e]) at k3
  rw [ce_strs] at k0 k2
  rw [ce_lets] at k1
  rw [ce_nodes] at k3
  obtain ⟨li, gi⟩ := tr_strs k0
  obtain ⟨lo, go⟩ := tr_strs k2
  obtain ⟨xss, s1, s2⟩ := tr_rows (sz := 2) Tryz.underlying24 ce_let (by decide) k1
  obtain ⟨ls, rfl, _⟩ := rows_map (f := LetC.cells) (p := fun _ => True) fun c hc => tr_let (s2 c hc)
  obtain ⟨yss, u1, u2, _⟩ := trB_rows (sz := 8) Tryz.underlying25 ce_node (by decide) k3
  obtain ⟨ns, rfl, u3⟩ := rows_map (f := NodeV.cells) (p := fun o => o.ok (World.hp W) ∧ o.c.few 35184372088400) fun c hc => trB_node (u2 c hc)
  exact ⟨⟨li, ls, lo, ns.map NodeV.c⟩, a, b, c, e, ns, rfl, ⟨gi, s1, go, u1, fun o ho => (u3 o ho).1, rfl⟩, fun o ho => (u3 o ho).2⟩
end
end Go.Proofs.YtmgpifkekofacaaGreatDoor
