/-
  Slices: rows of our own that grow; slices that nobody writes any more. Nothing of the program stands here.
-/
import Derived.Test.YtmflkokhhknlaaaDoorTake
import Derived.Test.YtmflkokhhknlaaaDoorSlice
import Derived.Maps.AppendAt
namespace Go.Tw
set_option linter.unusedVariables false
set_option linter.unusedSimpArgs false
set_option linter.unnecessarySimpa false
set_option maxHeartbeats 1000000
open Go Go.RowKit

def slcB : Value → Nat
  | .slice (some a) _ _ => a.block
  | _ => 0
def slcO : Value → Nat
  | .slice (some a) _ _ => a.off
  | _ => 0
theorem add_none (b off k : Nat) : (⟨b, off, none⟩ : Addr).add k = ⟨b, off + k, none⟩ := by unfold Addr.add; split <;> simp_all
/-- The slice v of elements of sz cells each, in memory that nobody writes: the elements' cells are xs. -/
structure Slc (I : Hp) (sz : Nat) (v : Value) (xs : List (List Value)) : Prop where
  shape : (v = .slice none 0 0 ∧ xs = []) ∨ ∃ b off cap, v = .slice (some ⟨b, off, none⟩) xs.length cap ∧ xs.length ≤ cap
  cells : ∀ j c, xs[j]? = some c → ∀ k u, c[k]? = some u → I.cell? ⟨slcB v, slcO v + j * sz + k, none⟩ = some u
  lens : ∀ c ∈ xs, c.length = sz
  most : xs.length ≤ maxLen
theorem Slc.le {I I' : Hp} {sz : Nat} {v : Value} {xs : List (List Value)} (h : Slc I sz v xs) (hl : I.Le I') : Slc I' sz v xs :=
  ⟨h.shape, fun j c hj k u hk => hl.cell (h.cells j c hj k u hk), h.lens, h.most⟩
theorem Slc.nil (I : Hp) (sz : Nat) : Slc I sz (.slice none 0 0) [] := ⟨.inl ⟨rfl, rfl⟩, fun j c h => by simp at h, fun c h => (by cases h), Nat.zero_le _⟩
theorem Slc.form {I : Hp} {sz : Nat} {v : Value} {xs : List (List Value)} (h : Slc I sz v xs) (hp : 0 < xs.length) : ∃ cap, v = .slice (some ⟨slcB v, slcO v, none⟩) xs.length cap ∧ xs.length ≤ cap := by
  rcases h.shape with ⟨_, h2⟩ | ⟨b, off, cap, rfl, hc⟩
  · subst h2; simp at hp
  · exact ⟨cap, rfl, hc⟩
theorem Slc.len {I : Hp} {sz : Nat} {v : Value} {xs : List (List Value)} (h : Slc I sz v xs) : ∃ A cap, v = .slice A xs.length cap := by
  rcases h.shape with ⟨h1, h2⟩ | ⟨b, off, cap, h1, _⟩
  · subst h2; exact ⟨_, _, h1⟩
  · exact ⟨_, _, h1⟩

section
variable {P : Program} {Q : Exit → Act → World → Prop} {n : Nat} {D : List Deferred} {E : Env} {S S' : World → Prop} {ops : Array Oper} {rest : List Oper} {d : Nat} {op : Op} {ty : TypeId} {pos : String} {aft : Array Edge} {g : Option (Nat × Bool)} {v : Value} {w0 : World} {X : List Nat} {I : Hp} {B : List Item}
theorem o_lenSlc {qm : Bool} {x : Operand} {t e : TypeId} {sz : Nat} {u : Value} {xs : List (List Value)} (hg : Wants ops E g) (hd : Nat.blt d n = true) (hu : P.underlying t = some (.slice e)) (hx : ev E x = some u) (hs : Slc I sz u xs)
    (k : TL qm P ops Q rest n D ((d, .int .i64 xs.length) :: E) S) : TL qm P ops Q (⟨some d, .call { callee := .builtin .len, args := #[x], argTypes := #[t] }, ty, pos, aft, g⟩ :: rest) n D E S := by
  obtain ⟨A, cap, hv⟩ := hs.len
  exact o_lenL hg hd hu (by rw [hx, hv]) k
/-- &x[i] -/
theorem o_elem {qm : Bool} {x ix : Operand} {t e : TypeId} {sz : Nat} {u : Value} {xs : List (List Value)} {kd : IntKind} {i : Int} (hg : Wants ops E g) (hd : Nat.blt d n = true) (hu : P.underlying t = some (.slice e)) (hsz : ∀ w, (sizeOf e).run P w = .ok sz w) (hx : ev E x = some u) (hs : Slc I sz u xs) (hi : ev E ix = some (.int kd i)) (h : 0 ≤ i ∧ i < xs.length)
    (k : TL qm P ops Q rest n D ((d, .pointer (some ⟨slcB u, slcO u + i.toNat * sz, none⟩)) :: E) S) : TL qm P ops Q (⟨some d, .indexAddr t x ix, ty, pos, aft, g⟩ :: rest) n D E S := by
  obtain ⟨cap, hv, _⟩ := hs.form (by omega)
  refine o_rd hg hd (v := .pointer (some ⟨slcB u, slcO u + i.toNat * sz, none⟩)) (fun a w ha hw d pos aft g => ⟨w, ?_, rfl⟩) k
  have hx' : a.eval x = .slice (some ⟨slcB u, slcO u, none⟩) xs.length cap := by rw [ha.ev hx]; exact hv
  have hh : (0 ≤ i ∧ i < (xs.length : Int)) := h
  simp only [execOp, hx', ha.ev hi, Instr.indexAt, asIntOf, Sem.run_bind, Sem.run_pure, run_underlying hu, Result.andThen_ok, hsz, Sem.run_ite, if_pos hh, add_none]
/-- A load of one cell that nobody writes. -/
theorem o_load1I {qm : Bool} {T : TypeId} {p : Operand} {b off : Nat} (hg : Wants ops E g) (hd : Nat.blt d n = true) (hagg : ∀ w, (isAgg T).run P w = .ok false w) (hp : ev E p = some (.pointer (some ⟨b, off, none⟩))) (hI : I.cell? ⟨b, off, none⟩ = some v)
    (k : TL qm P ops Q rest n D ((d, v) :: E) (St w0 X I B)) : TL qm P ops Q (⟨some d, .load T p, ty, pos, aft, g⟩ :: rest) n D E (St w0 X I B) :=
  o_rd hg hd (v := v) (fun a w ha hw d pos aft g => ⟨w, by
    have hcell : w.cell? ⟨b, off, none⟩ = some v := Hp.In.cell hw.imm hI
    simp [execOp, ha.ev hp, Instr.loadAt, Instr.sureAddr, loadVar, hagg, hcell, Result.andThen], rfl⟩) k
/-- .. of a struct. -/
theorem o_loadAI {qm : Bool} {T : TypeId} {p : Operand} {b off sz : Nat} {cs : List Value} (hg : Wants ops E g) (hd : Nat.blt d n = true) (hagg : ∀ w, (isAgg T).run P w = .ok true w) (hsz : ∀ w, (sizeOf T).run P w = .ok sz w) (hp : ev E p = some (.pointer (some ⟨b, off, none⟩))) (hl : cs.length = sz) (hI : ∀ k u, cs[k]? = some u → I.cell? ⟨b, off + k, none⟩ = some u)
    (k : TL qm P ops Q rest n D ((d, .agg cs.toArray) :: E) (St w0 X I B)) : TL qm P ops Q (⟨some d, .load T p, ty, pos, aft, g⟩ :: rest) n D E (St w0 X I B) :=
  o_rd hg hd (v := .agg cs.toArray) (fun a w ha hw d pos aft g => ⟨w, by
    have h := run_loadCells_list (P := P) w ⟨b, off, none⟩ cs (fun j u hj => by rw [add_none]; exact Hp.In.cell hw.imm (hI j u hj))
    rw [hl] at h
    simp [execOp, ha.ev hp, Instr.loadAt, Instr.sureAddr, loadVar, hagg, hsz, h, Result.andThen], rfl⟩) k

/-- An element type: what 'append' asks of it. -/
def ElemTy (P : Program) (e : TypeId) (size bytes : Nat) : Prop := ∃ i z, P.info? e = some i ∧ i.zero = some z ∧ i.size = size ∧ i.bytes = bytes ∧ z.cells.size = size
def plain1 : List Value → Bool
  | [] => true
  | v :: r => v.oneCell' && plain1 r
theorem plain1_all : ∀ {l : List Value}, plain1 l = true → ∀ u ∈ l, u.oneCell' = true
  | [], _, u, h => by cases h
  | v :: r, h, u, hu => by
    simp only [plain1, Bool.and_eq_true] at h
    rcases List.mem_cons.1 hu with rfl | hu
    · exact h.1
    · exact plain1_all h.2 u hu
/-- append(row, x...), x a box of our own -/
theorem o_appendBox {sl x : Operand} {t e Tb : TypeId} {size bytes m c b nn : Nat} {u : Value} {xs news : List Value} {fz : Nat × Nat} {B' : Value → List Item} (hg : Wants ops E g) (hd : Nat.blt d n = true) (hu : P.underlying t = some (.slice e)) (he : ElemTy P e size bytes) (hpos : 0 < size)
    (hsl : ev E sl = some u) (hx : ev E x = some (.slice (some ⟨b, 0, none⟩) m c)) (hput : ∀ v', Put B (.row u e size nn xs) (B' v') (.row v' e size (nn + m) (xs ++ news))) (hbox : Item.box b (.cells news.toArray Tb fz) ∈ B) (hl : news.length = m * size) (h1 : plain1 news = true)
    (hmax : nn + m ≤ maxLen) (hby : (nn + m) * bytes ≤ 140737488355328)
    (k : ∀ v', TL false P ops Q rest n D ((d, v') :: E) (St w0 X I (B' v'))) : TL false P ops Q (⟨some d, .call { callee := .builtin .append, args := #[sl, x], argTypes := #[t, t] }, ty, pos, aft, g⟩ :: rest) n D E (St w0 X I B) :=
  o_opX (ι := Value) (V := fun v' => v') (SX := fun v' => St w0 X I (B' v')) (F := fun _ => True) hg hd
    (fun a w ha hw d pos aft g => by
      obtain ⟨i, z, h2, h3, h4, h5, h6⟩ := he
      have hown : w.ownsRow 0 e size u nn xs := hw.own _ (hput u).mem
      have hb : w.heap[b]? = some (.cells news.toArray Tb fz) := hw.own _ hbox
      have hnews : ∀ j y, news[j]? = some y → w.cell? ((⟨b, 0, none⟩ : Addr).add j) = some y := fun j y hj => by
        rw [add_none]; simp [World.cell?, hb, hj]
      obtain ⟨v', w', hr, hown', hgr, _, hkey⟩ := run_append_own_at (P := P) w 0 t ty e i z size bytes hu h2 h3 h4 h5 h6 hpos u nn xs hown ⟨b, 0, none⟩ m c news hl hnews (plain1_all h1) hmax hby (Nat.zero_le _)
      refine ⟨w', v', ?_, hw.turn (hput v') (But.of_grown hgr) hown' (fun k hk => ?_), trivial⟩
      · simp only [execOp, resolve, List.map_toArray, List.map_cons, List.map_nil, ha.ev hsl, ha.ev hx, Sem.run_bind, Sem.run_pure, Result.andThen_ok, invoke, builtin, hr]
      · change v'.ownBlock = some k at hk
        rcases hkey with e1 | e1
        · exact .inl (by rw [← hk, e1]; rfl)
        · rw [e1] at hk; cases hk; exact .inr (Nat.le_refl _)) (fun v' _ => k v')
/-- A row that holds nothing yet. -/
theorem St.nilRow {w : World} (h : St w0 X I B w) (e : TypeId) (size : Nat) : St w0 X I (.row (.slice none 0 0) e size 0 [] :: B) w :=
  ⟨h.os, h.tape, h.output, h.size, h.keep, h.imm, fun it hi => by
    rcases List.mem_cons.1 hi with rfl | hi
    · exact ⟨by simp, .inl ⟨rfl, rfl⟩⟩
    · exact h.own it hi, fun it hi b hb => by
    rcases List.mem_cons.1 hi with rfl | hi
    · cases hb
    · exact h.dis it hi b hb, List.pairwise_cons.2 ⟨fun y _ b hb => (by cases hb), h.apart⟩⟩
/-- A row's length. -/
theorem o_lenRow {x : Operand} {t e T : TypeId} {size nn : Nat} {u : Value} {xs : List Value} (hg : Wants ops E g) (hd : Nat.blt d n = true) (hu : P.underlying t = some (.slice e)) (hx : ev E x = some u) (hB : Item.row u T size nn xs ∈ B)
    (k : TL false P ops Q rest n D ((d, .int .i64 nn) :: E) (St w0 X I B)) : TL false P ops Q (⟨some d, .call { callee := .builtin .len, args := #[x], argTypes := #[t] }, ty, pos, aft, g⟩ :: rest) n D E (St w0 X I B) :=
  o_op hg hd (v := .int .i64 nn) (S' := St w0 X I B) (fun a w ha hw d pos aft g => ⟨w, by
    have hown : w.ownsRow 0 T size u nn xs := hw.own _ hB
    have hv : ∃ A cap, u = .slice A nn cap := by
      rcases hown.2 with ⟨rfl, h⟩ | ⟨gg, cap, cur, rfl, _⟩
      · subst h; exact ⟨_, _, rfl⟩
      · exact ⟨_, _, rfl⟩
    obtain ⟨A, cap, rfl⟩ := hv
    simp [execOp, resolve, ha.ev hx, invoke, builtin, Builtin.len_, run_underlying hu, goInt, Result.andThen], hw⟩) k
theorem Put.first {it it' : Item} {B : List Item} : Put (it :: B) it (it' :: B) it' := .here
/-- A row is given over: nobody writes it any more. -/
theorem St.sealRow {w : World} {e : TypeId} {size nn : Nat} {u : Value} {xss : List (List Value)} (h : St w0 [] I (.row u e size nn xss.flatten :: B) w) (hn : xss.length = nn) (hlen : ∀ c ∈ xss, c.length = size) (hm : nn ≤ maxLen) :
    ∃ I', St w0 [] I' B w ∧ Ext w0.heap.size I I' ∧ Slc I' size u xss := by
  have hown : w.ownsRow 0 e size u nn xss.flatten := h.own _ List.mem_cons_self
  rcases hown.2 with ⟨rfl, h0⟩ | ⟨gg, cap, cur, rfl, _, hgg, hcap, _, hcs, htake⟩
  · subst h0
    have : xss = [] := List.length_eq_zero_iff.1 hn
    subst this
    exact ⟨I, h.drop (List.sublist_cons_self _ _), Ext.refl _ _, Slc.nil _ _⟩
  · have hbox : St w0 [] I (.box gg (.cells cur e (0, 0)) :: B) w := by
      refine ⟨h.os, h.tape, h.output, h.size, h.keep, h.imm, fun it hi => ?_, fun it hi b hb => ?_, ?_⟩
      · rcases List.mem_cons.1 hi with rfl | hi
        · exact hgg
        · exact h.own it (List.mem_cons_of_mem _ hi)
      · rcases List.mem_cons.1 hi with rfl | hi
        · cases hb; exact h.dis _ List.mem_cons_self gg rfl
        · exact h.dis it (List.mem_cons_of_mem _ hi) b hb
      · obtain ⟨h1, h2⟩ := List.pairwise_cons.1 h.apart
        exact List.pairwise_cons.2 ⟨fun y hy b hb => h1 y hy b hb, h2⟩
    have hnew : w0.heap.size ≤ gg := by
      rcases (h.dis _ List.mem_cons_self gg rfl).2 with h1 | h1
      · exact h1
      · cases h1
    have hInone : I gg = none := (h.dis _ List.mem_cons_self gg rfl).1
    refine ⟨_, hbox.seal_, ⟨fun b o hb => ?_, fun b hb hb' => ?_⟩, ⟨.inr ⟨gg, 0, cap, by rw [hn], by omega⟩, fun j c hj k y hk => ?_, hlen, by omega⟩⟩
    · show (if b = gg then _ else I b) = some o
      by_cases hbg : b = gg
      · subst hbg; rw [hInone] at hb; cases hb
      · rw [if_neg hbg]; exact hb
    · by_cases hbg : b = gg
      · subst hbg; exact hnew
      · rw [if_neg hbg] at hb'; exact absurd hb hb'
    · have hj' := (List.getElem?_eq_some_iff.1 hj).1
      have hk' := (List.getElem?_eq_some_iff.1 hk).1
      have hcl := hlen c (List.mem_of_getElem? hj)
      have hflat : xss.flatten[j * size + k]? = some y := flat_get hlen j c hj k y hk
      have hcur : cur[j * size + k]? = some y := by
        rw [← htake] at hflat
        rw [List.getElem?_take] at hflat
        split at hflat
        · simpa using hflat
        · cases hflat
      simp only [Hp.cell?, slcB, slcO, if_true]
      simpa using hcur
where
  flat_get {size : Nat} : ∀ {xss : List (List Value)}, (∀ c ∈ xss, c.length = size) → ∀ j c, xss[j]? = some c → ∀ k y, c[k]? = some y → xss.flatten[j * size + k]? = some y
    | [], _, j, c, hj, k, y, hk => by simp at hj
    | x :: r, hl, 0, c, hj, k, y, hk => by
      simp only [List.getElem?_cons_zero, Option.some.injEq] at hj
      subst hj
      rw [List.flatten_cons, Nat.zero_mul, Nat.zero_add, List.getElem?_append_left (List.getElem?_eq_some_iff.1 hk).1]
      exact hk
    | x :: r, hl, j + 1, c, hj, k, y, hk => by
      have hx := hl x List.mem_cons_self
      simp only [List.getElem?_cons_succ] at hj
      have ih := flat_get (fun c hc => hl c (List.mem_cons_of_mem _ hc)) j c hj k y hk
      rw [List.flatten_cons, List.getElem?_append_right (by rw [hx, Nat.add_mul, Nat.one_mul]; omega), hx]
      rw [show (j + 1) * size + k - size = j * size + k by rw [Nat.add_mul, Nat.one_mul]; omega]
      exact ih
/-- A function ends, and gives its row over. -/
theorem leafRow {w : World} {e : TypeId} {size nn : Nat} {u v : Value} {xss : List (List Value)} {R : Value → Hp → List Item → Prop} (hn : xss.length = nn) (hlen : ∀ c ∈ xss, c.length = size) (hm : nn ≤ maxLen) (h : ∀ I', I.Le I' → Slc I' size u xss → R v I' []) :
    ∀ w', St w [] I (.row u e size nn xss.flatten :: B) w' → Post w [] I R v w' := fun w' hw => by
  obtain ⟨I', h1, h2, h3⟩ := hw.sealRow hn hlen hm
  exact ⟨I', [], h1.drop (List.nil_sublist _), h2, h I' h2.le h3⟩
end
end Go.Tw
