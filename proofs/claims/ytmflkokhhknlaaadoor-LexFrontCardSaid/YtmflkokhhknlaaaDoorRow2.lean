/-
  Slices, again: rows that are made at once, read and written in their middle; pieces of slices that nobody writes. Nothing of the program stands here.
-/
import Derived.Test.YtmflkokhhknlaaaDoorRow
import Derived.Laws.OwnMore
import Derived.Laws.CopyRow
namespace Go.Tw
set_option linter.unusedVariables false
set_option linter.unusedSimpArgs false
set_option linter.unnecessarySimpa false
set_option maxHeartbeats 1000000
open Go Go.RowKit

/-- A piece of a slice. -/
def slcCut (u : Value) (lo hi sz : Nat) : Value := match u with
  | .slice a _ c => sliced a lo hi c sz
  | v => v
theorem Slc.cut {I : Hp} {sz : Nat} {u : Value} {xs : List (List Value)} (h : Slc I sz u xs) {lo hi : Nat} (h1 : lo ≤ hi) (h2 : hi ≤ xs.length) : Slc I sz (slcCut u lo hi sz) ((xs.take hi).drop lo) := by
  have hl : ((xs.take hi).drop lo).length = hi - lo := by simp; omega
  rcases h.shape with ⟨rfl, rfl⟩ | ⟨b, off, cap, rfl, hc⟩
  · have e1 : hi = 0 := by simpa using h2
    have e2 : lo = 0 := by omega
    subst e1; subst e2
    exact Slc.nil _ _
  · have hm := h.most
    refine ⟨?_, ?_, fun c hcm => h.lens c (List.mem_of_mem_take (List.mem_of_mem_drop hcm)), by rw [hl]; omega⟩
    · right
      rw [hl]
      simp only [slcCut, sliced]
      by_cases hcl : cap = lo
      · rw [if_pos hcl]; exact ⟨b, off, cap - lo, rfl, by omega⟩
      · rw [if_neg hcl, Option.map_some, add_none]; exact ⟨b, off + lo * sz, cap - lo, rfl, by omega⟩
    · intro j c hj k y hk
      have hj' : xs[lo + j]? = some c := by
        rw [List.getElem?_drop, List.getElem?_take] at hj
        split at hj
        · exact hj
        · cases hj
      have hlt := (List.getElem?_eq_some_iff.1 hj).1
      rw [hl] at hlt
      have hcl : ¬ cap = lo := by omega
      have hcell := h.cells (lo + j) c hj' k y hk
      simp only [slcCut, sliced, if_neg hcl, Option.map_some, add_none, slcB, slcO] at hcell ⊢
      rw [show off + lo * sz + j * sz + k = off + (lo + j) * sz + k by rw [Nat.add_mul]; omega]
      exact hcell

/-- .. an element type, with its zero. -/
def ElemZ (P : Program) (e : TypeId) (size bytes : Nat) (zs : List Value) : Prop := ∃ i z, P.info? e = some i ∧ i.zero = some z ∧ i.size = size ∧ i.bytes = bytes ∧ z.cells = zs.toArray ∧ zs.length = size
theorem ElemZ.ty {P : Program} {e : TypeId} {size bytes : Nat} {zs : List Value} (h : ElemZ P e size bytes zs) : ElemTy P e size bytes := by
  obtain ⟨i, z, h1, h2, h3, h4, h5, h6⟩ := h
  exact ⟨i, z, h1, h2, h3, h4, by rw [h5]; simpa using h6⟩

section
variable {P : Program} {Q : Exit → Act → World → Prop} {n : Nat} {D : List Deferred} {E : Env} {S S' : World → Prop} {ops : Array Oper} {rest : List Oper} {d : Nat} {op : Op} {ty : TypeId} {pos : String} {aft : Array Edge} {g : Option (Nat × Bool)} {v : Value} {w0 : World} {X : List Nat} {I : Hp} {B : List Item}
/-- x[:h] -/
theorem o_cutHi {qm : Bool} {x hx : Operand} {t e : TypeId} {sz : Nat} {u : Value} {xs : List (List Value)} {kd : IntKind} {h : Int} (hg : Wants ops E g) (hd : Nat.blt d n = true) (hu : P.underlying t = some (.slice e)) (hsz : ∀ w, (sizeOf e).run P w = .ok sz w) (hxv : ev E x = some u) (hs : Slc I sz u xs) (hh : ev E hx = some (.int kd h)) (hb : 0 ≤ h ∧ h ≤ xs.length)
    (k : TL qm P ops Q rest n D ((d, slcCut u 0 h.toNat sz) :: E) S) : TL qm P ops Q (⟨some d, .slice t x none (some hx) none, ty, pos, aft, g⟩ :: rest) n D E S := by
  have hcap : ∃ A cap, u = .slice A xs.length cap ∧ xs.length ≤ cap := by
    rcases hs.shape with ⟨h1, h2⟩ | ⟨b, off, cap, h1, h2⟩
    · subst h2; exact ⟨none, 0, h1, Nat.le_refl _⟩
    · exact ⟨_, cap, h1, h2⟩
  obtain ⟨A, cap, hv, hc⟩ := hcap
  have hel : P.underlying t = some (.slice (P.elem t)) := by rw [hu]; simp [Program.elem, hu]
  have hel2 : P.elem t = e := by simp [Program.elem, hu]
  refine o_rd hg hd (v := slcCut u 0 h.toNat sz) (fun a w ha hw d pos aft g => ⟨w, ?_, rfl⟩) k
  have hx' : a.eval x = .slice A xs.length cap := by rw [ha.ev hxv]; exact hv
  have hr := run_slice_h (P := P) w t A xs.length cap hel kd h hb.1 (by omega)
  rw [hel2, hsz] at hr
  simp only [execOp, Sem.run_bind, Sem.run_pure, Option.map_none, Option.map_some, hx', ha.ev hh, run_sliceAt_slice w t _ _ _ _ hel, hr, Result.andThen_ok, hv, slcCut]
/-- x[l:] -/
theorem o_cutLo {qm : Bool} {x lx : Operand} {t e : TypeId} {sz : Nat} {u : Value} {xs : List (List Value)} {kd : IntKind} {l : Int} (hg : Wants ops E g) (hd : Nat.blt d n = true) (hu : P.underlying t = some (.slice e)) (hsz : ∀ w, (sizeOf e).run P w = .ok sz w) (hxv : ev E x = some u) (hs : Slc I sz u xs) (hh : ev E lx = some (.int kd l)) (hb : 0 ≤ l ∧ l ≤ xs.length)
    (k : TL qm P ops Q rest n D ((d, slcCut u l.toNat xs.length sz) :: E) S) : TL qm P ops Q (⟨some d, .slice t x (some lx) none none, ty, pos, aft, g⟩ :: rest) n D E S := by
  obtain ⟨A, cap, hv⟩ := hs.len
  have hel : P.underlying t = some (.slice (P.elem t)) := by rw [hu]; simp [Program.elem, hu]
  have hel2 : P.elem t = e := by simp [Program.elem, hu]
  refine o_rd hg hd (v := slcCut u l.toNat xs.length sz) (fun a w ha hw d pos aft g => ⟨w, ?_, rfl⟩) k
  have hx' : a.eval x = .slice A xs.length cap := by rw [ha.ev hxv]; exact hv
  have hr := run_slice_l (P := P) w t A xs.length cap hel kd l hb.1 (by omega)
  rw [hel2, hsz] at hr
  simp only [execOp, Sem.run_bind, Sem.run_pure, Option.map_none, Option.map_some, hx', ha.ev hh, run_sliceAt_slice w t _ _ _ _ hel, hr, Result.andThen_ok, hv, slcCut]
/-- x[l:h] -/
theorem o_cutMid {qm : Bool} {x lx hx : Operand} {t e : TypeId} {sz : Nat} {u : Value} {xs : List (List Value)} {kd ke : IntKind} {l h : Int} (hg : Wants ops E g) (hd : Nat.blt d n = true) (hu : P.underlying t = some (.slice e)) (hsz : ∀ w, (sizeOf e).run P w = .ok sz w) (hxv : ev E x = some u) (hs : Slc I sz u xs) (hl : ev E lx = some (.int kd l)) (hh : ev E hx = some (.int ke h)) (hb : 0 ≤ l ∧ l ≤ h ∧ h ≤ xs.length)
    (k : TL qm P ops Q rest n D ((d, slcCut u l.toNat h.toNat sz) :: E) S) : TL qm P ops Q (⟨some d, .slice t x (some lx) (some hx) none, ty, pos, aft, g⟩ :: rest) n D E S := by
  have hcap : ∃ A cap, u = .slice A xs.length cap ∧ xs.length ≤ cap := by
    rcases hs.shape with ⟨h1, h2⟩ | ⟨b, off, cap, h1, h2⟩
    · subst h2; exact ⟨none, 0, h1, Nat.le_refl _⟩
    · exact ⟨_, cap, h1, h2⟩
  obtain ⟨A, cap, hv, hc⟩ := hcap
  have hel : P.underlying t = some (.slice (P.elem t)) := by rw [hu]; simp [Program.elem, hu]
  have hel2 : P.elem t = e := by simp [Program.elem, hu]
  refine o_rd hg hd (v := slcCut u l.toNat h.toNat sz) (fun a w ha hw d pos aft g => ⟨w, ?_, rfl⟩) k
  have hx' : a.eval x = .slice A xs.length cap := by rw [ha.ev hxv]; exact hv
  have hr := run_slice_lh (P := P) w t A xs.length cap hel kd ke l h hb.1 hb.2.1 (by omega)
  rw [hel2, hsz] at hr
  simp only [execOp, Sem.run_bind, Sem.run_pure, Option.map_none, Option.map_some, hx', ha.ev hh, ha.ev hl, run_sliceAt_slice w t _ _ _ _ hel, hr, Result.andThen_ok, hv, slcCut]
/-- []T{} -/
theorem o_emptySl {t e : TypeId} {sz : Nat} (hg : Wants ops E g) (hd : Nat.blt d n = true) (hu : P.underlying t = some (.slice e)) (hsz : ∀ w, (sizeOf e).run P w = .ok sz w)
    (k : ∀ v', TL false P ops Q rest n D ((d, v') :: E) (St w0 X I (.row v' e sz 0 [] :: B))) : TL false P ops Q (⟨some d, .buildSlice t 0 #[], ty, pos, aft, g⟩ :: rest) n D E (St w0 X I B) :=
  o_opX (ι := Value) (V := fun v' => v') (SX := fun v' => St w0 X I (.row v' e sz 0 [] :: B)) (F := fun _ => True) hg hd
    (fun a w ha hw d pos aft g => ⟨w.alloc (.cells #[] e (0, 0)), .slice (some ⟨w.heap.size, 0, none⟩) 0 0, by
      have h1 : ¬ 0 * sz > 2 ^ 24 := by omega
      have h2 : 0 * sz = 0 := by omega
      simp only [execOp, Instr.buildSlice, run_underlying hu, Sem.run_bind, hsz, Result.andThen_ok, Sem.run_ite, if_neg h1, if_pos h2, Sem.run_pure, Nat.zero_mul, Array.range_zero', List.map_toArray, Array.map_empty, Instr.fill, newRow, run_newObj]
      rfl,
      hw.new (But.alloc w _) ⟨by simp, .inr ⟨w.heap.size, 0, #[], rfl, Nat.zero_le _, heap_alloc_new w _, Nat.le_refl _, Nat.zero_le _, by simp, by simp⟩⟩ (fun b hb => by cases hb; exact Nat.le_refl _), trivial⟩) (fun v _ => k v)
/-- make([]T, n) -/
theorem o_makeRow {t e : TypeId} {size bytes : Nat} {zs : List Value} {lx cx : Operand} {kl kc : IntKind} {m : Int} (hg : Wants ops E g) (hd : Nat.blt d n = true) (hu : P.underlying t = some (.slice e)) (he : ElemZ P e size bytes zs) (hl : ev E lx = some (.int kl m)) (hc : ev E cx = some (.int kc m)) (h0 : 0 ≤ m) (hby : bytes * m.toNat ≤ 281474976710656) (hmax : m.toNat ≤ maxLen)
    (k : ∀ v', TL false P ops Q rest n D ((d, v') :: E) (St w0 X I (.row v' e size m.toNat (madeCells zs.toArray (m.toNat * size)).toList :: B))) : TL false P ops Q (⟨some d, .makeSlice t lx cx, ty, pos, aft, g⟩ :: rest) n D E (St w0 X I B) :=
  o_opX (ι := Value) (V := fun v' => v') (SX := fun v' => St w0 X I (.row v' e size m.toNat (madeCells zs.toArray (m.toNat * size)).toList :: B)) (F := fun _ => True) hg hd
    (fun a w ha hw d pos aft g => by
      obtain ⟨i, z, h2, h3, h4, h5, h6, h7⟩ := he
      obtain ⟨w', hr, hown, hgr⟩ := run_make_full (P := P) w 0 t e i z size hu h2 h3 h4 kl kc m.toNat (by rw [h5]; exact hby) hmax (Nat.zero_le _)
      rw [show ((m.toNat : Nat) : Int) = m by omega] at hr
      refine ⟨w', .slice (some ⟨w.heap.size, 0, none⟩) m.toNat m.toNat, ?_, hw.new (But.of_grown hgr) (by rw [← h6]; exact hown) (fun b hb => by cases hb; exact Nat.le_refl _), trivial⟩
      simp only [execOp, ha.ev hl, ha.ev hc, Sem.run_bind, Sem.run_pure, hr, Result.andThen_ok]) (fun v _ => k v)
/-- make([]T, 0, n) -/
theorem o_makeRow0 {t e : TypeId} {size bytes : Nat} {zs : List Value} {lx cx : Operand} {kl kc : IntKind} {m : Int} (hg : Wants ops E g) (hd : Nat.blt d n = true) (hu : P.underlying t = some (.slice e)) (he : ElemZ P e size bytes zs) (hl : ev E lx = some (.int kl 0)) (hc : ev E cx = some (.int kc m)) (h0 : 0 ≤ m) (hby : bytes * m.toNat ≤ 281474976710656) (hmax : m.toNat ≤ maxLen)
    (k : ∀ v', TL false P ops Q rest n D ((d, v') :: E) (St w0 X I (.row v' e size 0 [] :: B))) : TL false P ops Q (⟨some d, .makeSlice t lx cx, ty, pos, aft, g⟩ :: rest) n D E (St w0 X I B) :=
  o_opX (ι := Value) (V := fun v' => v') (SX := fun v' => St w0 X I (.row v' e size 0 [] :: B)) (F := fun _ => True) hg hd
    (fun a w ha hw d pos aft g => by
      obtain ⟨i, z, h2, h3, h4, h5, h6, h7⟩ := he
      obtain ⟨w', hr, hown, hgr⟩ := run_make_own (P := P) w 0 t e i z size hu h2 h3 h4 kl kc m.toNat (by rw [h5]; exact hby) hmax (Nat.zero_le _)
      rw [show ((m.toNat : Nat) : Int) = m by omega] at hr
      refine ⟨w', .slice (some ⟨w.heap.size, 0, none⟩) 0 m.toNat, ?_, hw.new (But.of_grown hgr) hown (fun b hb => by cases hb; exact Nat.le_refl _), trivial⟩
      simp only [execOp, ha.ev hl, ha.ev hc, Sem.run_bind, Sem.run_pure, hr, Result.andThen_ok]) (fun v _ => k v)
theorem row_form {w : World} {e : TypeId} {size nn : Nat} {u : Value} {xs : List Value} (h : w.ownsRow 0 e size u nn xs) (hp : 0 < nn) : ∃ cap, u = .slice (some ⟨slcB u, 0, none⟩) nn cap := by
  rcases h.2 with ⟨_, h2⟩ | ⟨gg, cap, cur, rfl, _⟩
  · omega
  · exact ⟨cap, rfl⟩
/-- &row[i] -/
theorem o_elemRow {x ix : Operand} {t e T : TypeId} {sz nn : Nat} {u : Value} {xs : List Value} {kd : IntKind} {i : Int} (hg : Wants ops E g) (hd : Nat.blt d n = true) (hu : P.underlying t = some (.slice e)) (hsz : ∀ w, (sizeOf e).run P w = .ok sz w) (hx : ev E x = some u) (hB : Item.row u T sz nn xs ∈ B) (hi : ev E ix = some (.int kd i)) (h : 0 ≤ i ∧ i < nn)
    (k : TL false P ops Q rest n D ((d, .pointer (some ⟨slcB u, i.toNat * sz, none⟩)) :: E) (St w0 X I B)) : TL false P ops Q (⟨some d, .indexAddr t x ix, ty, pos, aft, g⟩ :: rest) n D E (St w0 X I B) :=
  o_op hg hd (v := .pointer (some ⟨slcB u, i.toNat * sz, none⟩)) (S' := St w0 X I B) (fun a w ha hw d pos aft g => ⟨w, by
    obtain ⟨cap, hv⟩ := row_form (hw.own _ hB) (by omega)
    have hx' : a.eval x = .slice (some ⟨slcB u, 0, none⟩) nn cap := by rw [ha.ev hx]; exact hv
    have hh : (0 ≤ i ∧ i < (nn : Int)) := h
    simp only [execOp, hx', ha.ev hi, Instr.indexAt, asIntOf, Sem.run_bind, Sem.run_pure, run_underlying hu, Result.andThen_ok, hsz, Sem.run_ite, if_pos hh, add_none, Nat.zero_add], hw⟩) k
/-- A write into a row. -/
theorem o_storeRow {T Tb : TypeId} {p x : Operand} {off sz size nn : Nat} {u : Value} {xs vs xs' : List Value} {B' : List Item} (hg : Wants ops E g) (hp : ev E p = some (.pointer (some ⟨slcB u, off, none⟩))) (hx : ev E x = some v) (hc : v.cells = vs.toArray) (hsz : ∀ w, (sizeOf T).run P w = .ok sz w) (hl : vs.length = sz) (h1 : plain1 vs = true)
    (hB : Put B (.row u Tb size nn xs) B' (.row u Tb size nn xs'))
    (hpos : 0 < sz) (hoff : off + sz ≤ nn * size) (hxs : xs' = xs.take off ++ vs ++ xs.drop (off + sz))
    (k : TL false P ops Q rest n D E (St w0 X I B')) : TL false P ops Q (⟨none, .store T p x, ty, pos, aft, g⟩ :: rest) n D E (St w0 X I B) :=
  o_op0 hg (S' := St w0 X I B') (fun a w ha hS d pos aft g => by
    have hown : w.ownsRow 0 Tb size u nn xs := hS.own _ hB.mem
    have hnn : nn ≠ 0 := fun e => by subst e; omega
    rcases hown.2 with ⟨_, h2⟩ | ⟨gg, cap, cur, rfl, hb0, hgg, hnc, hcm, hcs, htake⟩
    · exact absurd h2 hnn
    have hle : nn * size ≤ cap * size := Nat.mul_le_mul_right _ hnc
    have hst := run_storeCells_at P gg off Tb vs 0 cur w hgg (by omega) (plain1_all h1)
    simp only [Nat.add_zero] at hst
    have hlen : xs.length = nn * size := hown.1
    have hct : cur.toList.take off = xs.take off := by rw [← htake, List.take_take, Nat.min_eq_left (by omega)]
    have hnew : (cur.toList.take off ++ vs ++ cur.toList.drop (off + vs.length)).take (nn * size) = xs' := by
      have hal : (xs.take off ++ vs).length = off + sz := by simp; omega
      rw [hxs, hct, hl, List.take_append, hal, List.take_of_length_le (by omega), ← htake, List.drop_take]
    have hnl : xs'.length = nn * size := by rw [hxs]; simp; omega
    refine ⟨_, ?_, hS.turn hB (w' := w.setRow gg _) ⟨rfl, rfl, rfl, by simp [World.setRow], fun k hk hne => setRow_other w gg k _ (fun e => hne (by rw [e]; rfl))⟩
      ⟨hnl, .inr ⟨gg, cap, _, rfl, hb0, setRow_heap w gg cur (cur.toList.take off ++ vs ++ cur.toList.drop (off + vs.length)).toArray Tb (0, 0) hgg, hnc, hcm, by simp; omega, by simpa using hnew⟩⟩ (fun _ h => .inl h)⟩
    have hv : v.cells.toList = vs := by rw [hc]
    have hs' : ¬ (v.cells.size ≠ sz) := by rw [hc]; simp [hl]
    simp only [slcB] at hp
    simp only [execOp, ha.ev hp, ha.ev hx, Instr.storeAt, Instr.sureAddr, storeVar, Sem.run_bind, Sem.run_pure, Result.andThen_ok, hsz, hv, if_neg hs', hst]) k
theorem row_cell {w : World} {e : TypeId} {size nn : Nat} {u : Value} {xs : List Value} (h : w.ownsRow 0 e size u nn xs) {j : Nat} {y : Value} (hj : xs[j]? = some y) : w.cell? ⟨slcB u, j, none⟩ = some y := by
  have hlt := (List.getElem?_eq_some_iff.1 hj).1
  rw [h.1] at hlt
  have hnn : nn ≠ 0 := fun e => by subst e; omega
  rcases h.2 with ⟨_, h2⟩ | ⟨gg, cap, cur, rfl, _⟩
  · exact absurd h2 hnn
  · rw [show slcB (.slice (some ⟨gg, 0, none⟩) nn cap) = gg from rfl, h.cellAt j hlt, hj]
/-- A read of one cell of a row. -/
theorem o_loadRow1 {qm : Bool} {T Tb : TypeId} {p : Operand} {off size nn : Nat} {u : Value} {xs : List Value} (hg : Wants ops E g) (hd : Nat.blt d n = true) (hagg : ∀ w, (isAgg T).run P w = .ok false w) (hB : Item.row u Tb size nn xs ∈ B) (hp : ev E p = some (.pointer (some ⟨slcB u, off, none⟩))) (hr : xs[off]? = some v)
    (k : TL qm P ops Q rest n D ((d, v) :: E) (St w0 X I B)) : TL qm P ops Q (⟨some d, .load T p, ty, pos, aft, g⟩ :: rest) n D E (St w0 X I B) :=
  o_rd hg hd (v := v) (fun a w ha hw d pos aft g => ⟨w, by
    have hcell : w.cell? ⟨slcB u, off, none⟩ = some v := row_cell (hw.own _ hB) hr
    simp [execOp, ha.ev hp, Instr.loadAt, Instr.sureAddr, loadVar, hagg, hcell, Result.andThen], rfl⟩) k
/-- .. of a struct. -/
theorem o_loadRowA {qm : Bool} {T Tb : TypeId} {p : Operand} {off size nn sz : Nat} {u : Value} {xs cs : List Value} (hg : Wants ops E g) (hd : Nat.blt d n = true) (hagg : ∀ w, (isAgg T).run P w = .ok true w) (hsz : ∀ w, (sizeOf T).run P w = .ok sz w) (hB : Item.row u Tb size nn xs ∈ B) (hp : ev E p = some (.pointer (some ⟨slcB u, off, none⟩))) (hl : cs.length = sz) (hr : ∀ k y, cs[k]? = some y → xs[off + k]? = some y)
    (k : TL qm P ops Q rest n D ((d, .agg cs.toArray) :: E) (St w0 X I B)) : TL qm P ops Q (⟨some d, .load T p, ty, pos, aft, g⟩ :: rest) n D E (St w0 X I B) :=
  o_rd hg hd (v := .agg cs.toArray) (fun a w ha hw d pos aft g => ⟨w, by
    have h := run_loadCells_list (P := P) w ⟨slcB u, off, none⟩ cs (fun j y hj => by rw [add_none]; exact row_cell (hw.own _ hB) (hr j y hj))
    rw [hl] at h
    simp [execOp, ha.ev hp, Instr.loadAt, Instr.sureAddr, loadVar, hagg, hsz, h, Result.andThen], rfl⟩) k
/-- append(row, x...), x a slice that nobody writes -/
theorem o_appendSlc {sl x : Operand} {t e : TypeId} {size bytes nn : Nat} {u ux : Value} {xs : List Value} {yss : List (List Value)} {B' : Value → List Item} (hg : Wants ops E g) (hd : Nat.blt d n = true) (hu : P.underlying t = some (.slice e)) (he : ElemTy P e size bytes) (hpos : 0 < size)
    (hsl : ev E sl = some u) (hx : ev E x = some ux) (hput : ∀ v', Put B (.row u e size nn xs) (B' v') (.row v' e size (nn + yss.length) (xs ++ yss.flatten))) (hs : Slc I size ux yss) (h1 : ∀ c ∈ yss, plain1 c = true)
    (hmax : nn + yss.length ≤ maxLen) (hby : (nn + yss.length) * bytes ≤ 140737488355328)
    (k : ∀ v', TL false P ops Q rest n D ((d, v') :: E) (St w0 X I (B' v'))) : TL false P ops Q (⟨some d, .call { callee := .builtin .append, args := #[sl, x], argTypes := #[t, t] }, ty, pos, aft, g⟩ :: rest) n D E (St w0 X I B) :=
  o_opX (ι := Value) (V := fun v' => v') (SX := fun v' => St w0 X I (B' v')) (F := fun _ => True) hg hd
    (fun a w ha hw d pos aft g => by
      obtain ⟨i, z, h2, h3, h4, h5, h6⟩ := he
      have hown : w.ownsRow 0 e size u nn xs := hw.own _ (hput u).mem
      rcases hs.shape with ⟨hv, hy⟩ | ⟨b, off, cap, hv, hc⟩
      · subst hy
        have hr := run_append_owned_none (P := P) w 0 t ty e i size hu h2 u nn xs hown
        refine ⟨w, u, ?_, hw.turn (hput u) (But.refl _ _) (by show w.ownsRow 0 e size u _ _; simpa using hown) (fun b hb => .inl hb), trivial⟩
        simp only [execOp, resolve, List.map_toArray, List.map_cons, List.map_nil, ha.ev hsl, ha.ev hx, hv, Sem.run_bind, Sem.run_pure, Result.andThen_ok, invoke, builtin, hr]
      · have hfl : yss.flatten.length = yss.length * size := flat_len hs.lens
        have hnews : ∀ j y, yss.flatten[j]? = some y → w.cell? ((⟨b, off, none⟩ : Addr).add j) = some y := fun j y hj => by
          rw [add_none]
          obtain ⟨q, c, k, hq, hk, hjk⟩ := flat_at hs.lens hpos hj
          have := hs.cells q c hq k y hk
          rw [hv] at this
          simp only [slcB, slcO] at this
          rw [hjk, ← Nat.add_assoc]
          exact Hp.In.cell hw.imm this
        have hp1 : ∀ y ∈ yss.flatten, y.oneCell' = true := fun y hy => by
          obtain ⟨c, hc, hyc⟩ := List.mem_flatten.1 hy
          exact plain1_all (h1 c hc) y hyc
        obtain ⟨v', w', hr, hown', hgr, _, hkey⟩ := run_append_own_at (P := P) w 0 t ty e i z size bytes hu h2 h3 h4 h5 h6 hpos u nn xs hown ⟨b, off, none⟩ yss.length cap yss.flatten hfl hnews hp1 hmax hby (Nat.zero_le _)
        refine ⟨w', v', ?_, hw.turn (hput v') (But.of_grown hgr) hown' (fun k hk => ?_), trivial⟩
        · simp only [execOp, resolve, List.map_toArray, List.map_cons, List.map_nil, ha.ev hsl, ha.ev hx, hv, Sem.run_bind, Sem.run_pure, Result.andThen_ok, invoke, builtin, hr]
        · change v'.ownBlock = some k at hk
          rcases hkey with e1 | e1
          · exact .inl (by rw [← hk, e1]; rfl)
          · rw [e1] at hk; cases hk; exact .inr (Nat.le_refl _)) (fun v' _ => k v')
where
  flat_len {size : Nat} : ∀ {yss : List (List Value)}, (∀ c ∈ yss, c.length = size) → yss.flatten.length = yss.length * size
    | [], _ => by simp
    | c :: r, h => by
      rw [List.flatten_cons, List.length_append, h c List.mem_cons_self, flat_len (fun x hx => h x (List.mem_cons_of_mem _ hx)), List.length_cons, Nat.add_mul, Nat.one_mul, Nat.add_comm]
  flat_at {size : Nat} : ∀ {yss : List (List Value)}, (∀ c ∈ yss, c.length = size) → 0 < size → ∀ {j : Nat} {y : Value}, yss.flatten[j]? = some y → ∃ q c k, yss[q]? = some c ∧ c[k]? = some y ∧ j = q * size + k
    | [], _, _, j, y, hj => by simp at hj
    | c :: r, h, hp, j, y, hj => by
      have hc := h c List.mem_cons_self
      rw [List.flatten_cons, List.getElem?_append] at hj
      split at hj
      · exact ⟨0, c, j, rfl, hj, by omega⟩
      · rename_i hge
        obtain ⟨q, c', k, h1, h2, h3⟩ := flat_at (fun x hx => h x (List.mem_cons_of_mem _ hx)) hp hj
        exact ⟨q + 1, c', k, h1, h2, by rw [Nat.add_mul, Nat.one_mul]; omega⟩
/-- string(row) -/
theorem o_rowStr {x : Operand} {t t2 e : TypeId} {nn : Nat} {u : Value} {ns : List Int} {T : TypeId} (hg : Wants ops E g) (hd : Nat.blt d n = true) (hs : P.underlying t = some (.slice e)) (he : P.underlying e = some (.int .u8)) (hd2 : P.underlying t2 = some .string) (hx : ev E x = some u)
    (hB : Item.row u T 1 nn (ns.map (Value.int .u8)) ∈ B) (hp : 0 < nn)
    (k : TL false P ops Q rest n D ((d, .string (strOf ns)) :: E) (St w0 X I B)) : TL false P ops Q (⟨some d, .convert t t2 x, ty, pos, aft, g⟩ :: rest) n D E (St w0 X I B) :=
  o_op hg hd (v := .string (strOf ns)) (S' := St w0 X I B) (fun a w ha hw d pos aft g => ⟨w, by
    have hown : w.ownsRow 0 T 1 u nn (ns.map (Value.int .u8)) := hw.own _ hB
    obtain ⟨cap, hv⟩ := row_form hown hp
    have hl : ns.length = nn := by have := hown.1; simpa using this
    have hld := run_loadCells_list (P := P) w ⟨slcB u, 0, none⟩ (ns.map (Value.int .u8)) (fun j y hj => by rw [add_none, Nat.zero_add]; exact row_cell hown hj)
    rw [List.length_map, hl] at hld
    have hstr := run_bytesToString (P := P) w ⟨slcB u, 0, none⟩ nn cap ns hld
    simp only [execOp, ha.ev hx]
    rw [hv]
    simp only [run_convert_bytes_string w t t2 e _ _ _ hs he hd2, hstr, Result.andThen_ok, strOf_eq, Sem.run_bind, Sem.run_pure], hw⟩) k
/-- A row is given over in the middle of a function. -/
theorem c_seal {c : Code} {e : TypeId} {size nn : Nat} {u : Value} {xss : List (List Value)} (hn : xss.length = nn) (hlen : ∀ c ∈ xss, c.length = size) (hm : nn ≤ maxLen)
    (k : ∀ I', Ext w0.heap.size I I' → Slc I' size u xss → TC P c Q n D E (St w0 [] I' B)) : TC P c Q n D E (St w0 [] I (.row u e size nn xss.flatten :: B)) := ⟨fun a w ha hw => by
  obtain ⟨I', h1, h2, h3⟩ := hw.sealRow hn hlen hm
  exact (k I' h2 h3).out a w ha h1⟩
end
end Go.Tw
