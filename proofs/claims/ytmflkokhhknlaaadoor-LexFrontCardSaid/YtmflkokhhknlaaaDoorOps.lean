/-
  One lemma a kind of operation that looks at the types' table or at memory; calls by contract. Nothing of the program stands here.
-/
import Derived.Test.YtmflkokhhknlaaaDoorState
import Derived.Laws.RangeAny
import Derived.Lib.OthersKept
namespace Go.Tw
set_option linter.unusedVariables false
set_option linter.unusedSimpArgs false
set_option linter.unnecessarySimpa false
open Go Go.RowKit

/-! ### contracts -/
/-- It gives v and leaves the world alone. -/
def PureC (P : Program) (f : FuncId) (vs : List Value) (v : Value) : Prop := ∀ w, Ret P f vs.toArray w fun u w' => u = v ∧ w' = w
def keysOf : List Item → List Nat
  | [] => []
  | it :: r => match it.key with
    | some b => b :: keysOf r
    | none => keysOf r
theorem mem_keysOf {b : Nat} : ∀ {B : List Item}, b ∈ keysOf B ↔ ∃ it, it ∈ B ∧ it.key = some b
  | [] => by simp [keysOf]
  | it :: r => by
    have ih := @mem_keysOf b r
    simp only [keysOf]
    cases hk : it.key with
    | none =>
      simp only [ih]
      exact ⟨fun ⟨x, h1, h2⟩ => ⟨x, List.mem_cons_of_mem _ h1, h2⟩, fun ⟨x, h1, h2⟩ => by
        rcases List.mem_cons.1 h1 with rfl | h1
        · rw [hk] at h2; cases h2
        · exact ⟨x, h1, h2⟩⟩
    | some c =>
      simp only [List.mem_cons, ih]
      constructor
      · rintro (rfl | ⟨x, h1, h2⟩)
        · exact ⟨it, .inl rfl, hk⟩
        · exact ⟨x, .inr h1, h2⟩
      · rintro ⟨x, rfl | h1, h2⟩
        · rw [hk] at h2; cases h2; exact .inl rfl
        · exact .inr ⟨x, h1, h2⟩
/-- What such a function brings. -/
structure Post (w : World) (X : List Nat) (I : Hp) (R : Value → Hp → List Item → Prop) (v : Value) (w' : World) : Prop where
  out : ∃ I' B', St w X I' B' w' ∧ Ext w.heap.size I I' ∧ R v I' B'
/-- The contract of a function that reads what stands in I, may write the items Bc, and gives R of its result, of what stands then, of what became of the items. -/
def Fun (P : Program) (f : FuncId) (vs : List Value) (I : Hp) (Bc : List Item) (R : Value → Hp → List Item → Prop) : Prop :=
  ∀ w, St w (keysOf Bc) I Bc w → Ret P f vs.toArray w fun v w' => Post w (keysOf Bc) I R v w'

theorem leaf {w : World} {X : List Nat} {I I' : Hp} {B B' : List Item} {R : Value → Hp → List Item → Prop} {v : Value} (he : Ext w.heap.size I I') (hs : B'.Sublist B) (h : R v I' B') :
    ∀ w', St w X I' B w' → Post w X I R v w' := fun _ hw => ⟨_, _, hw.drop hs, he, h⟩
theorem leaf0 {w : World} {X : List Nat} {I : Hp} {B : List Item} {R : Value → Hp → List Item → Prop} {v : Value} (h : R v I []) :
    ∀ w', St w X I B w' → Post w X I R v w' := leaf (Ext.refl _ _) (List.nil_sublist _) h

theorem Item.holds_same {w w' : World} {it : Item} (h : it.holds w) (hs : ∀ b, it.key = some b → w'.heap[b]? = w.heap[b]?) : it.holds w' := by
  cases it with
  | box b o => exact (hs b rfl).trans h
  | row v T s n xs =>
    refine ⟨h.1, ?_⟩
    rcases h.2 with h2 | ⟨g, cap, cur, rfl, h3, h4, h5⟩
    · exact .inl h2
    · exact .inr ⟨g, cap, cur, rfl, h3, (hs g rfl).trans h4, h5⟩

/-- What a call leaves to its caller. -/
theorem St.call {w0 w w' : World} {X : List Nat} {I I' : Hp} {Bc B B' : List Item} (h : St w0 X I (Bc ++ B) w) (h' : St w (keysOf Bc) I' B' w') (he : Ext w.heap.size I I') : St w0 X I' (B' ++ B) w' ∧ Ext w0.heap.size I I' := by
  obtain ⟨hp1, hp2, hp3⟩ := List.pairwise_append.1 h.apart
  have inB : ∀ it, it ∈ B → it ∈ Bc ++ B := fun it hi => List.mem_append.2 (.inr hi)
  have inC : ∀ it, it ∈ Bc → it ∈ Bc ++ B := fun it hi => List.mem_append.2 (.inl hi)
  have hBlt : ∀ it, it ∈ B → ∀ b, it.key = some b → b < w.heap.size := fun it hi b hb => Item.holds_lt (h.own it (inB it hi)) hb
  have hBno : ∀ it, it ∈ B → ∀ b, it.key = some b → b ∉ keysOf Bc := fun it hi b hb hm => by
    obtain ⟨x, hx, hxb⟩ := mem_keysOf.1 hm
    exact hp3 x hx it hi b hxb hb
  refine ⟨⟨h'.os.trans h.os, h'.tape.trans h.tape, h'.output.trans h.output, Nat.le_trans h.size h'.size, fun k hk hX => ?_, h'.imm, fun it hi => ?_, fun it hi b hb => ?_, ?_⟩, ⟨he.le, fun b h1 h2 => Nat.le_trans h.size (he.new b h1 h2)⟩⟩
  · rw [h'.keep k (Nat.lt_of_lt_of_le hk h.size) (fun hm => ?_)]
    · exact h.keep k hk hX
    · obtain ⟨x, hx, hxb⟩ := mem_keysOf.1 hm
      rcases (h.dis x (inC x hx) k hxb).2 with h1 | h1
      · omega
      · exact hX h1
  · rcases List.mem_append.1 hi with hi | hi
    · exact h'.own it hi
    · exact Item.holds_same (h.own it (inB it hi)) (fun b hb => h'.keep b (hBlt it hi b hb) (hBno it hi b hb))
  · rcases List.mem_append.1 hi with hi | hi
    · obtain ⟨h1, h2⟩ := h'.dis it hi b hb
      refine ⟨h1, ?_⟩
      rcases h2 with h2 | h2
      · exact .inl (Nat.le_trans h.size h2)
      · obtain ⟨x, hx, hxb⟩ := mem_keysOf.1 h2
        exact (h.dis x (inC x hx) b hxb).2
    · obtain ⟨h1, h2⟩ := h.dis it (inB it hi) b hb
      refine ⟨?_, h2⟩
      cases hI : I' b with
      | none => rfl
      | some o =>
        have := he.new b h1 (by rw [hI]; exact fun e => (by cases e))
        have := hBlt it hi b hb
        omega
  · refine List.pairwise_append.2 ⟨h'.apart, hp2, fun x hx y hy b hxb hyb => ?_⟩
    rcases (h'.dis x hx b hxb).2 with h1 | h1
    · have := hBlt y hy b hyb; omega
    · exact hBno y hy b hyb h1
theorem St.forCall {w0 w : World} {X : List Nat} {I : Hp} {Bc B : List Item} (h : St w0 X I (Bc ++ B) w) : St w (keysOf Bc) I Bc w :=
  ⟨rfl, rfl, rfl, Nat.le_refl _, fun _ _ _ => rfl, h.imm, fun it hi => h.own it (List.mem_append.2 (.inl hi)), fun it hi b hb => ⟨(h.dis it (List.mem_append.2 (.inl hi)) b hb).1, .inr (mem_keysOf.2 ⟨it, hi, hb⟩)⟩, (List.pairwise_append.1 h.apart).1⟩

section
variable {P : Program} {Q : Exit → Act → World → Prop} {n : Nat} {D : List Deferred} {E : Env} {S S' : World → Prop} {ops : Array Oper} {rest : List Oper} {d : Nat} {op : Op} {ty : TypeId} {pos : String} {aft : Array Edge} {g : Option (Nat × Bool)} {v : Value} {w0 : World} {X : List Nat} {I : Hp} {B : List Item}

theorem o_callP {qm : Bool} {f : FuncId} {args : List Operand} {ats : Array TypeId} {vs : List Value} (hg : Wants ops E g) (hd : Nat.blt d n = true) (he : ∀ args w, (callFunc f args).run P w = .ok (.enter f args) w) (ha : evs E args = some vs)
    (hc : PureC P f vs v) (k : TL qm P ops Q rest n D ((d, v) :: E) S) :
    TL qm P ops Q (⟨some d, .call { callee := .value (.func f), args := args.toArray, argTypes := ats }, ty, pos, aft, g⟩ :: rest) n D E S :=
  o_callV hg hd he ha (fun w hw => (hc w).mono fun u w' ⟨h1, h2⟩ => ⟨h1, by rw [h2]; exact hw⟩) k
/-- .. that writes nothing of ours, and gives this value. -/
theorem o_callQ {qm : Bool} {f : FuncId} {args : List Operand} {ats : Array TypeId} {vs : List Value} (hg : Wants ops E g) (hd : Nat.blt d n = true) (he : ∀ args w, (callFunc f args).run P w = .ok (.enter f args) w) (ha : evs E args = some vs)
    (hc : Fun P f vs I [] (fun u _ _ => u = v)) (k : TL qm P ops Q rest n D ((d, v) :: E) (St w0 X I B)) :
    TL qm P ops Q (⟨some d, .call { callee := .value (.func f), args := args.toArray, argTypes := ats }, ty, pos, aft, g⟩ :: rest) n D E (St w0 X I B) :=
  o_callV hg hd he ha (fun w hw => by
      refine (hc w (St.start hw.imm)).mono ?_
      rintro v w' ⟨I', B', h1, h2, h3⟩
      exact ⟨h3, hw.still (But.of_below (h1.below))⟩) k
/-- A draw moves nothing. -/
theorem St.drawn {w0 w : World} {X : List Nat} {I : Hp} {B : List Item} (h : St w0 X I B w) : St w0 X I B { w with drawn := w.drawn + 1 } :=
  ⟨h.os, h.tape, h.output, h.size, h.keep, h.imm, fun it hi => Item.holds_but (b := none) ⟨rfl, rfl, rfl, Nat.le_refl _, fun _ _ _ => rfl⟩ (h.own it hi) (fun _ _ e => (by cases e)), h.dis, h.apart⟩

/-- A call that may write the items Bc, which stand first. -/
theorem o_callB {f : FuncId} {args : List Operand} {ats : Array TypeId} {vs : List Value} (Bc : List Item) {B0 : List Item} {R : Value → Hp → List Item → Prop} (hg : Wants ops E g) (hd : Nat.blt d n = true) (he : ∀ args w, (callFunc f args).run P w = .ok (.enter f args) w) (ha : evs E args = some vs)
    (hB : B = Bc ++ B0) (hc : Fun P f vs I Bc R) (k : ∀ v I' B', Ext w0.heap.size I I' → R v I' B' → TL false P ops Q rest n D ((d, v) :: E) (St w0 X I' (B' ++ B0))) :
    TL false P ops Q (⟨some d, .call { callee := .value (.func f), args := args.toArray, argTypes := ats }, ty, pos, aft, g⟩ :: rest) n D E (St w0 X I B) :=
  o_callG (ι := Value × Hp × List Item) (V := fun i => i.1) (SX := fun i => St w0 X i.2.1 (i.2.2 ++ B0)) (F := fun i => Ext w0.heap.size I i.2.1 ∧ R i.1 i.2.1 i.2.2) hg hd he ha
    (fun w hw => by
      subst hB
      refine (hc w hw.forCall).mono ?_
      rintro v w' ⟨I', B', h1, h2, h3⟩
      obtain ⟨h4, h5⟩ := hw.call h1 h2
      exact ⟨(v, I', B'), rfl, ⟨h5, h3⟩, h4⟩)
    (fun i h => k i.1 i.2.1 i.2.2 h.1 h.2)
/-- A call that writes nothing of ours and gives a plain value. -/
theorem o_call0 {f : FuncId} {args : List Operand} {ats : Array TypeId} {vs : List Value} {R : Value → Prop} (hg : Wants ops E g) (hd : Nat.blt d n = true) (he : ∀ args w, (callFunc f args).run P w = .ok (.enter f args) w) (ha : evs E args = some vs)
    (hc : Fun P f vs I [] (fun v _ _ => R v)) (k : ∀ v, R v → TL false P ops Q rest n D ((d, v) :: E) (St w0 X I B)) :
    TL false P ops Q (⟨some d, .call { callee := .value (.func f), args := args.toArray, argTypes := ats }, ty, pos, aft, g⟩ :: rest) n D E (St w0 X I B) :=
  o_callG (ι := Value) (V := fun i => i) (SX := fun _ => St w0 X I B) (F := fun i => R i) hg hd he ha
    (fun w hw => by
      refine (hc w (St.start hw.imm)).mono ?_
      rintro v w' ⟨I', B', h1, h2, h3⟩
      exact ⟨v, rfl, h3, hw.still (But.of_below (h1.below))⟩)
    (fun i h => k i h)
/-- .. and gives what stands in a larger I. -/
theorem o_callI {f : FuncId} {args : List Operand} {ats : Array TypeId} {vs : List Value} {R : Value → Hp → Prop} (hg : Wants ops E g) (hd : Nat.blt d n = true) (he : ∀ args w, (callFunc f args).run P w = .ok (.enter f args) w) (ha : evs E args = some vs)
    (hc : Fun P f vs I [] (fun v I' _ => R v I')) (k : ∀ v I', Ext w0.heap.size I I' → R v I' → TL false P ops Q rest n D ((d, v) :: E) (St w0 X I' B)) :
    TL false P ops Q (⟨some d, .call { callee := .value (.func f), args := args.toArray, argTypes := ats }, ty, pos, aft, g⟩ :: rest) n D E (St w0 X I B) :=
  o_callG (ι := Value × Hp) (V := fun i => i.1) (SX := fun i => St w0 X i.2 B) (F := fun i => Ext w0.heap.size I i.2 ∧ R i.1 i.2) hg hd he ha
    (fun w hw => by
      refine (hc w (St.start hw.imm)).mono ?_
      rintro v w' ⟨I', B', h1, h2, h3⟩
      have h1' : St w [] I' [] w' := h1.drop (List.nil_sublist _)
      obtain ⟨h4, h5⟩ := St.call (Bc := []) (B := B) hw h1' h2
      exact ⟨(v, I'), rfl, ⟨h5, h3⟩, h4⟩)
    (fun i h => k i.1 i.2 h.1 h.2)
theorem PureC.fun_ {f : FuncId} {vs : List Value} (h : PureC P f vs v) (I : Hp) : Fun P f vs I [] (fun u _ _ => u = v) := fun w hw => (h w).mono fun u w' ⟨h1, h2⟩ => ⟨I, [], by rw [h2]; exact hw, Ext.refl _ _, h1⟩

/-! ### strings, numbers, lengths -/
theorem o_lenS {qm : Bool} {x : Operand} {t : TypeId} {s : ByteArray} (hg : Wants ops E g) (hd : Nat.blt d n = true) (hu : P.underlying t = some .string) (hx : ev E x = some (.string s))
    (k : TL qm P ops Q rest n D ((d, .int .i64 s.size) :: E) S) : TL qm P ops Q (⟨some d, .call { callee := .builtin .len, args := #[x], argTypes := #[t] }, ty, pos, aft, g⟩ :: rest) n D E S :=
  o_rd hg hd (v := .int .i64 s.size) (fun a w ha hw d pos aft g => ⟨w, by simp [execOp, resolve, ha.ev hx, invoke, builtin, Builtin.len_, run_underlying hu, goInt, Result.andThen], rfl⟩) k
theorem o_lenL {qm : Bool} {x : Operand} {t e : TypeId} {A : Option Addr} {l c : Nat} (hg : Wants ops E g) (hd : Nat.blt d n = true) (hu : P.underlying t = some (.slice e)) (hx : ev E x = some (.slice A l c))
    (k : TL qm P ops Q rest n D ((d, .int .i64 l) :: E) S) : TL qm P ops Q (⟨some d, .call { callee := .builtin .len, args := #[x], argTypes := #[t] }, ty, pos, aft, g⟩ :: rest) n D E S :=
  o_rd hg hd (v := .int .i64 l) (fun a w ha hw d pos aft g => ⟨w, by simp [execOp, resolve, ha.ev hx, invoke, builtin, Builtin.len_, run_underlying hu, goInt, Result.andThen], rfl⟩) k
/-- s[i] -/
theorem o_idxS {qm : Bool} {x ix : Operand} {t : TypeId} {s : ByteArray} {kd : IntKind} {i : Int} (hg : Wants ops E g) (hd : Nat.blt d n = true) (hu : P.underlying t = some .string) (hx : ev E x = some (.string s)) (hi : ev E ix = some (.int kd i)) (h : 0 ≤ i ∧ i < s.size)
    (k : TL qm P ops Q rest n D ((d, .int .u8 (s.get! i.toNat).toNat) :: E) S) : TL qm P ops Q (⟨some d, .index t x ix, ty, pos, aft, g⟩ :: rest) n D E S :=
  o_rd hg hd (v := .int .u8 (s.get! i.toNat).toNat) (fun a w ha hw d pos aft g => ⟨w, by
    have hlt : i.toNat < s.size := by omega
    have e : s[i.toNat]? = some (s.get! i.toNat) := by
      rw [getElem?_pos s i.toNat hlt]
      have : s.get! i.toNat = s[i.toNat] := by
        cases s with
        | mk dt => exact getElem!_pos dt _ hlt
      rw [this]
    simp [execOp, ha.ev hx, ha.ev hi, Instr.index, asIntOf, run_underlying hu, h.1, e, Result.andThen], rfl⟩) k
/-- s[l:] -/
theorem o_sliceS1 {qm : Bool} {x lo : Operand} {t : TypeId} {s : ByteArray} {kl : IntKind} {l : Int} (hg : Wants ops E g) (hd : Nat.blt d n = true) (hu : P.underlying t = some .string) (hx : ev E x = some (.string s)) (hl : ev E lo = some (.int kl l)) (h : 0 ≤ l ∧ l ≤ s.size)
    (k : TL qm P ops Q rest n D ((d, .string (s.extract l.toNat s.size)) :: E) S) : TL qm P ops Q (⟨some d, .slice t x (some lo) none none, ty, pos, aft, g⟩ :: rest) n D E S :=
  o_rd hg hd (v := .string (s.extract l.toNat s.size)) (fun a w ha hw d pos aft g => ⟨w, by
    simp [execOp, ha.ev hx, ha.ev hl, Instr.sliceAt, Instr.slice, Instr.sliceBounds, Instr.sliceBound, asIntOf, run_underlying hu, h.1, h.2, Result.andThen], rfl⟩) k
/-- s[:h] -/
theorem o_sliceS2 {qm : Bool} {x hi : Operand} {t : TypeId} {s : ByteArray} {kh : IntKind} {m : Int} (hg : Wants ops E g) (hd : Nat.blt d n = true) (hu : P.underlying t = some .string) (hx : ev E x = some (.string s)) (hl : ev E hi = some (.int kh m)) (h : 0 ≤ m ∧ m ≤ s.size)
    (k : TL qm P ops Q rest n D ((d, .string (s.extract 0 m.toNat)) :: E) S) : TL qm P ops Q (⟨some d, .slice t x none (some hi) none, ty, pos, aft, g⟩ :: rest) n D E S :=
  o_rd hg hd (v := .string (s.extract 0 m.toNat)) (fun a w ha hw d pos aft g => ⟨w, by
    simp [execOp, ha.ev hx, ha.ev hl, Instr.sliceAt, Instr.slice, Instr.sliceBounds, Instr.sliceBound, asIntOf, run_underlying hu, h.1, h.2, Result.andThen], rfl⟩) k
/-- s[l:h] -/
theorem o_sliceS3 {qm : Bool} {x lo hi : Operand} {t : TypeId} {s : ByteArray} {kl kh : IntKind} {l m : Int} (hg : Wants ops E g) (hd : Nat.blt d n = true) (hu : P.underlying t = some .string) (hx : ev E x = some (.string s)) (hlo : ev E lo = some (.int kl l)) (hl : ev E hi = some (.int kh m)) (h : 0 ≤ l ∧ l ≤ m ∧ m ≤ s.size)
    (k : TL qm P ops Q rest n D ((d, .string (s.extract l.toNat m.toNat)) :: E) S) : TL qm P ops Q (⟨some d, .slice t x (some lo) (some hi) none, ty, pos, aft, g⟩ :: rest) n D E S :=
  o_rd hg hd (v := .string (s.extract l.toNat m.toNat)) (fun a w ha hw d pos aft g => ⟨w, by
    have h0 : 0 ≤ m := by omega
    have h1 : l ≤ (m.toNat : Int) := by omega
    have h2 : l ≤ max m 0 := by omega
    simp [execOp, ha.ev hx, ha.ev hlo, ha.ev hl, Instr.sliceAt, Instr.slice, Instr.sliceBounds, Instr.sliceBound, asIntOf, run_underlying hu, h.1, h0, h.2.2, Result.andThen, h2], rfl⟩) k
/-- a + b -/
theorem o_cat {qm : Bool} {x y : Operand} {t t2 : TypeId} {s s2 : ByteArray} (hg : Wants ops E g) (hd : Nat.blt d n = true) (hx : ev E x = some (.string s)) (hy : ev E y = some (.string s2)) (h : s.size + s2.size ≤ 9223372036854775807)
    (k : TL qm P ops Q rest n D ((d, .string (s ++ s2)) :: E) S) : TL qm P ops Q (⟨some d, .binOp .add t x y t2, ty, pos, aft, g⟩ :: rest) n D E S :=
  o_rd hg hd (v := .string (s ++ s2)) (fun a w ha hw d pos aft g => ⟨w, by
    have : ¬ (((s.size + s2.size : Nat) : Int) > IntKind.i64.max) := by
      have e : IntKind.i64.max = 9223372036854775807 := by decide
      rw [e]; omega
    simp only [execOp, ha.ev hx, ha.ev hy, Sem.run_bind, run_eqGuard_str, Result.andThen_ok]
    simp only [binOp, Op.stringOp, this, if_false]
    rfl, rfl⟩) k
/-- An integer turned into one of another kind. -/
theorem o_conv {qm : Bool} {x : Operand} {t t2 : TypeId} {kd kd2 : IntKind} {i : Int} {dt : TypeDesc} (hg : Wants ops E g) (hd : Nat.blt d n = true) (hu : P.underlying t = some dt) (hu2 : P.underlying t2 = some (.int kd2)) (hx : ev E x = some (.int kd i))
    (k : TL qm P ops Q rest n D ((d, .int kd2 (kd2.wrap i)) :: E) S) : TL qm P ops Q (⟨some d, .convert t t2 x, ty, pos, aft, g⟩ :: rest) n D E S :=
  o_rd hg hd (v := .int kd2 (kd2.wrap i)) (fun a w ha hw d pos aft g => ⟨w, by
    simp [execOp, ha.ev hx, convert, run_underlying hu, run_underlying hu2, Conv.intToInt, Result.andThen], rfl⟩) k
/-- .. that fits. -/
theorem o_convIn {qm : Bool} {x : Operand} {t t2 : TypeId} {kd kd2 : IntKind} {i : Int} {dt : TypeDesc} (hg : Wants ops E g) (hd : Nat.blt d n = true) (hu : P.underlying t = some dt) (hu2 : P.underlying t2 = some (.int kd2)) (hx : ev E x = some (.int kd i)) (h : kd2.wrap i = i)
    (k : TL qm P ops Q rest n D ((d, .int kd2 i) :: E) S) : TL qm P ops Q (⟨some d, .convert t t2 x, ty, pos, aft, g⟩ :: rest) n D E S :=
  o_conv hg hd hu hu2 hx (by rw [h]; exact k)
/-- x % y, both sides at hand, y not 0 -/
theorem o_rem {qm : Bool} {x y : Operand} {t t2 : TypeId} {kd : IntKind} {p q : Int} (hg : Wants ops E g) (hd : Nat.blt d n = true) (hx : ev E x = some (.int kd p)) (hy : ev E y = some (.int kd q)) (h : 0 ≤ p ∧ 0 < q)
    (k : TL qm P ops Q rest n D ((d, .int kd (p % q)) :: E) S) : TL qm P ops Q (⟨some d, .binOp .rem t x y t2, ty, pos, aft, g⟩ :: rest) n D E S :=
  o_rd hg hd (v := .int kd (p % q)) (fun a w ha hw d pos aft g => ⟨w, by
    have h0 : ¬ q = 0 := by omega
    simp only [execOp, ha.ev hx, ha.ev hy, Sem.run_bind, run_eqGuard_int, Result.andThen_ok]
    simp [binOp, Op.intDiv, h0, Int.tmod_eq_emod_of_nonneg h.1], rfl⟩) k
theorem o_quo {qm : Bool} {x y : Operand} {t t2 : TypeId} {kd : IntKind} {p q : Int} (hg : Wants ops E g) (hd : Nat.blt d n = true) (hx : ev E x = some (.int kd p)) (hy : ev E y = some (.int kd q)) (h : 0 ≤ p ∧ 0 < q) (hb : kd.wrap (p / q) = p / q)
    (k : TL qm P ops Q rest n D ((d, .int kd (p / q)) :: E) S) : TL qm P ops Q (⟨some d, .binOp .quo t x y t2, ty, pos, aft, g⟩ :: rest) n D E S :=
  o_rd hg hd (v := .int kd (p / q)) (fun a w ha hw d pos aft g => ⟨w, by
    have h0 : ¬ q = 0 := by omega
    have h1 : p.tdiv q = p / q := Int.tdiv_eq_ediv_of_nonneg h.1
    simp only [execOp, ha.ev hx, ha.ev hy, Sem.run_bind, run_eqGuard_int, Result.andThen_ok]
    simp [binOp, Op.intDiv, h0, h1, hb], rfl⟩) k
/-- An operation whose run is known for all operands that it may meet (a closed fact of the program's). -/
theorem o_bin {qm : Bool} {op2 : BinOp} {x y : Operand} {t t2 : TypeId} {p q : Value} (hg : Wants ops E g) (hd : Nat.blt d n = true) (hx : ev E x = some p) (hy : ev E y = some q)
    (h : ∀ w, (do eqGuard op2 t x y p q; binOp op2 t p q : Sem Value).run P w = .ok v w)
    (k : TL qm P ops Q rest n D ((d, v) :: E) S) : TL qm P ops Q (⟨some d, .binOp op2 t x y t2, ty, pos, aft, g⟩ :: rest) n D E S :=
  o_rd hg hd (v := v) (fun a w ha hw d pos aft g => ⟨w, by
    have e := h w
    simp only [Sem.run_bind] at e
    simp only [execOp, ha.ev hx, ha.ev hy, Sem.run_bind, e, Result.andThen_ok]
    rfl, rfl⟩) k

/-! ### structs by value -/
inductive Rd : Nat → Nat → List Value → List Value → Prop
  | done {cs : List Value} : Rd 0 0 cs []
  | take {k : Nat} {c : Value} {cs r : List Value} : Rd 0 k cs r → Rd 0 (k + 1) (c :: cs) (c :: r)
  | skip {o k : Nat} {c : Value} {cs r : List Value} : Rd o k cs r → Rd (o + 1) k (c :: cs) r
theorem Rd.eq {o k : Nat} {cs r : List Value} (h : Rd o k cs r) : r = (cs.drop o).take k ∧ r.length = k := by
  induction h with
  | done => simp
  | take _ ih => exact ⟨by rw [ih.1]; simp, by simp [ih.2]⟩
  | skip _ ih => simpa using ih
theorem Rd.le {o k : Nat} {cs r : List Value} (h : Rd o k cs r) : o + k ≤ cs.length := by
  induction h with
  | done => simp
  | take _ ih => simp; omega
  | skip _ ih => simp; omega
/-- x.f of one cell -/
theorem o_field1 {qm : Bool} {x : Operand} {t T : TypeId} {f off : Nat} {fs : Array Field} {fl : Field} {cs : List Value} (hg : Wants ops E g) (hd : Nat.blt d n = true) (hu : P.underlying t = some (.struct fs)) (hf : fs[f]? = some fl) (ho : fl.offset = off) (ht : fl.type = T) (hagg : ∀ w, (isAgg T).run P w = .ok false w) (hx : ev E x = some (.agg cs.toArray)) (hr : Rd off 1 cs [v])
    (k : TL qm P ops Q rest n D ((d, v) :: E) S) : TL qm P ops Q (⟨some d, .field t x f, ty, pos, aft, g⟩ :: rest) n D E S :=
  o_rd hg hd (v := v) (fun a w ha hw d pos aft g => ⟨w, by
    subst ho; subst ht
    have e : cs[fl.offset]? = some v := by
      have := hr.eq.1
      have h2 := congrArg (·[0]?) this
      simpa [List.getElem?_take, List.getElem?_drop] using h2.symm
    simp [execOp, ha.ev hx, Instr.field, run_underlying hu, hf, asAgg, part, hagg, e, Result.andThen], rfl⟩) k
theorem o_fieldA {qm : Bool} {x : Operand} {t T : TypeId} {f off sz : Nat} {fs : Array Field} {fl : Field} {cs r : List Value} (hg : Wants ops E g) (hd : Nat.blt d n = true) (hu : P.underlying t = some (.struct fs)) (hf : fs[f]? = some fl) (ho : fl.offset = off) (ht : fl.type = T) (hagg : ∀ w, (isAgg T).run P w = .ok true w) (hsz : ∀ w, (sizeOf T).run P w = .ok sz w) (hx : ev E x = some (.agg cs.toArray)) (hr : Rd off sz cs r)
    (k : TL qm P ops Q rest n D ((d, .agg r.toArray) :: E) S) : TL qm P ops Q (⟨some d, .field t x f, ty, pos, aft, g⟩ :: rest) n D E S :=
  o_rd hg hd (v := .agg r.toArray) (fun a w ha hw d pos aft g => ⟨w, by
    subst ho; subst ht
    have e := hr.eq.1.symm
    simp [execOp, ha.ev hx, Instr.field, run_underlying hu, hf, asAgg, part, hagg, hsz, e, Result.andThen], rfl⟩) k

/-! ### memory of the function's own: boxes -/
inductive Wr : Nat → List Value → List Value → List Value → Prop
  | done {cs : List Value} : Wr 0 cs [] cs
  | put {c v : Value} {cs vs cs' : List Value} : Wr 0 cs vs cs' → Wr 0 (c :: cs) (v :: vs) (v :: cs')
  | skip {o : Nat} {c : Value} {cs vs cs' : List Value} : Wr o cs vs cs' → Wr (o + 1) (c :: cs) vs (c :: cs')
theorem Wr.len {o : Nat} {cs vs cs' : List Value} (h : Wr o cs vs cs') : o + vs.length ≤ cs.length ∧ cs'.length = cs.length := by
  induction h with
  | done => simp
  | put _ ih => simp; omega
  | skip _ ih => simp; omega
theorem Wr.eq {o : Nat} {cs vs cs' : List Value} (h : Wr o cs vs cs') : cs' = cs.take o ++ vs ++ cs.drop (o + vs.length) := by
  induction h with
  | done => simp
  | put _ ih => simpa using ih
  | skip _ ih => simp [ih, Nat.add_right_comm]

theorem setCell_box (w : World) (b o : Nat) (v : Value) (c : Array Value) (T : TypeId) (h : w.heap[b]? = some (.cells c T (0, 0))) :
    (w.setCell ⟨b, o, none⟩ v).heap[b]? = some (.cells (c.setIfInBounds o v) T (0, 0)) ∧ But (some b) w (w.setCell ⟨b, o, none⟩ v) := by
  constructor
  · simp [World.setCell, Array.getElem?_modify, h]
  · refine ⟨rfl, rfl, rfl, by simp [World.setCell], fun k hk hb => ?_⟩
    exact Below.heap_setCell w _ v k (fun e => hb (by rw [e]))

def oneCells : List Value → Bool
  | [] => true
  | .agg _ :: _ => false
  | .tuple _ :: _ => false
  | _ :: r => oneCells r
theorem oneCells_cons {v : Value} {r : List Value} (h : oneCells (v :: r) = true) : (∀ c, v ≠ .agg c) ∧ (∀ c, v ≠ .tuple c) ∧ oneCells r = true := by
  cases v <;> simp_all [oneCells]
theorem run_store_one {w : World} {a : Addr} {v u : Value} (hv : (∀ c, v ≠ .agg c) ∧ (∀ c, v ≠ .tuple c)) (hc : w.cell? a = some u) (hf : w.frozen? a = false) : (store a v).run P w = .ok () (w.setCell a v) := by
  cases v <;> first | exact absurd rfl (hv.1 _) | exact absurd rfl (hv.2 _) | simp [store, Sem.run, hc, hf]

theorem run_storeCells_box (b off : Nat) (T : TypeId) : ∀ (vs : List Value) (i : Nat) (w : World) (cs : List Value), w.heap[b]? = some (.cells cs.toArray T (0, 0)) → off + i + vs.length ≤ cs.length → oneCells vs = true →
    ∃ w', (storeCells ⟨b, off, none⟩ vs i).run P w = .ok () w' ∧ w'.heap[b]? = some (.cells (cs.take (off + i) ++ vs ++ cs.drop (off + i + vs.length)).toArray T (0, 0)) ∧ But (some b) w w'
  | [], i, w, cs, h, hl, h1 => ⟨w, by simp [storeCells], by simpa using h, But.refl _ _⟩
  | v :: vs, i, w, cs, h, hl, h1 => by
    obtain ⟨ha, ht, hr⟩ := oneCells_cons h1
    simp only [List.length_cons] at hl
    have hlt : off + i < cs.length := by omega
    have hadd : (⟨b, off, none⟩ : Addr).add i = ⟨b, off + i, none⟩ := by unfold Addr.add; split <;> simp_all
    have hcell : w.cell? ⟨b, off + i, none⟩ = some cs[off + i] := by simp [World.cell?, h, hlt]
    have hfr : w.frozen? ⟨b, off + i, none⟩ = false := by simp [World.frozen?, h]
    obtain ⟨h2, h3⟩ := setCell_box w b (off + i) v _ T h
    have h2' : (w.setCell ⟨b, off + i, none⟩ v).heap[b]? = some (.cells (cs.set (off + i) v).toArray T (0, 0)) := by simpa using h2
    obtain ⟨w', h4, h5, h6⟩ := run_storeCells_box b off T vs (i + 1) _ (cs.set (off + i) v) h2' (by simp; omega) hr
    refine ⟨w', ?_, ?_, h3.trans h6⟩
    · simp only [storeCells, Sem.run_bind, hadd]
      rw [run_store_one ⟨ha, ht⟩ hcell hfr]
      exact h4
    · rw [h5]
      congr 2
      have e1 : (cs.set (off + i) v).take (off + (i + 1)) = cs.take (off + i) ++ [v] := by
        rw [show off + (i + 1) = off + i + 1 by omega, List.take_succ_eq_append_getElem (by simp; omega)]
        simp [List.take_set_of_le]
      have e2 : (cs.set (off + i) v).drop (off + (i + 1) + vs.length) = cs.drop (off + i + (vs.length + 1)) := by
        rw [List.drop_set_of_lt (by omega)]
        congr 1; omega
      rw [e1, e2]
      simp

theorem run_loadCells_cs (w : World) (b off : Nat) (cs : List Value) (T : TypeId) (fz : Nat × Nat) (sz : Nat) (h : w.heap[b]? = some (.cells cs.toArray T fz)) (hl : off + sz ≤ cs.length) :
    (loadCells ⟨b, off, none⟩ sz).run P w = .ok ((cs.drop off).take sz).toArray w := by
  have := run_loadCells_list (P := P) w ⟨b, off, none⟩ ((cs.drop off).take sz) (fun j u hj => by
    have hadd : (⟨b, off, none⟩ : Addr).add j = ⟨b, off + j, none⟩ := by unfold Addr.add; split <;> simp_all
    rw [hadd]
    rw [List.getElem?_take] at hj
    split at hj
    · rw [List.getElem?_drop] at hj
      simp [World.cell?, h, hj]
    · cases hj)
  have hlen : ((cs.drop off).take sz).length = sz := by simp; omega
  rw [hlen] at this
  exact this

/-- A new box of a type's zero value. -/
theorem o_alloc {T : TypeId} {z : Value} {cs : List Value} (hg : Wants ops E g) (hd : Nat.blt d n = true) (hz : ∀ w, (zeroValue T).run P w = .ok z w) (hc : z.cells = cs.toArray)
    (k : ∀ b, TL false P ops Q rest n D ((d, .pointer (some ⟨b, 0, none⟩)) :: E) (St w0 X I (.box b (.cells cs.toArray T (0, 0)) :: B))) : TL false P ops Q (⟨some d, .alloc T, ty, pos, aft, g⟩ :: rest) n D E (St w0 X I B) :=
  o_opX (ι := Nat) (V := fun b => .pointer (some ⟨b, 0, none⟩)) (SX := fun b => St w0 X I (.box b (.cells cs.toArray T (0, 0)) :: B)) (F := fun _ => True) hg hd
    (fun a w ha hw d pos aft g => ⟨w.alloc (.cells cs.toArray T), w.heap.size, by
      simp [execOp, Instr.alloc, hz, newVar, newRow, newObj, Sem.run, hc, Result.andThen],
      hw.new (But.alloc w _) (heap_alloc_new w _) (fun b hb => by cases hb; exact Nat.le_refl _), trivial⟩) (fun b _ => k b)
/-- A new box that holds a value. -/
theorem o_box {T : TypeId} {x : Operand} {cs : List Value} (hg : Wants ops E g) (hd : Nat.blt d n = true) (hx : ev E x = some v) (hc : v.cells = cs.toArray)
    (k : ∀ b, TL false P ops Q rest n D ((d, .pointer (some ⟨b, 0, none⟩)) :: E) (St w0 X I (.box b (.cells cs.toArray T (0, 0)) :: B))) : TL false P ops Q (⟨some d, .box T x, ty, pos, aft, g⟩ :: rest) n D E (St w0 X I B) :=
  o_opX (ι := Nat) (V := fun b => .pointer (some ⟨b, 0, none⟩)) (SX := fun b => St w0 X I (.box b (.cells cs.toArray T (0, 0)) :: B)) (F := fun _ => True) hg hd
    (fun a w ha hw d pos aft g => ⟨w.alloc (.cells cs.toArray T), w.heap.size, by
      simp [execOp, Instr.box, ha.ev hx, newVar, newRow, newObj, Sem.run, hc, Result.andThen],
      hw.new (But.alloc w _) (heap_alloc_new w _) (fun b hb => by cases hb; exact Nat.le_refl _), trivial⟩) (fun b _ => k b)
/-- A store into a box. -/
theorem o_store {T Tb : TypeId} {p x : Operand} {b off sz : Nat} {cs vs cs' : List Value} {B' : List Item} (hg : Wants ops E g) (hp : ev E p = some (.pointer (some ⟨b, off, none⟩))) (hx : ev E x = some v) (hc : v.cells = vs.toArray) (hsz : ∀ w, (sizeOf T).run P w = .ok sz w) (hl : vs.length = sz) (h1 : oneCells vs = true)
    (hB : Put B (.box b (.cells cs.toArray Tb (0, 0))) B' (.box b (.cells cs'.toArray Tb (0, 0)))) (hw : Wr off cs vs cs')
    (k : TL false P ops Q rest n D E (St w0 X I B')) : TL false P ops Q (⟨none, .store T p x, ty, pos, aft, g⟩ :: rest) n D E (St w0 X I B) :=
  o_op0 hg (S' := St w0 X I B') (fun a w ha hS d pos aft g => by
    have hbox : w.heap[b]? = some (.cells cs.toArray Tb (0, 0)) := hS.own _ hB.mem
    obtain ⟨w', h2, h3, h4⟩ := run_storeCells_box (P := P) b off Tb vs 0 w cs hbox (by have := hw.len.1; omega) h1
    refine ⟨w', ?_, hS.turn hB h4 (by show w'.heap[b]? = _; rw [hw.eq]; simpa using h3) (fun _ h => .inl h)⟩
    have hs : (v.cells.size ≠ sz) = False := by rw [hc]; simp [hl]
    have hv : v.cells.toList = vs := by rw [hc]
    have hs' : ¬ (v.cells.size ≠ sz) := by rw [hs]; exact id
    simp only [execOp, ha.ev hp, ha.ev hx, Instr.storeAt, Instr.sureAddr, storeVar, Sem.run_bind, Sem.run_pure, Result.andThen_ok, hsz, hv, if_neg hs', h2]) k
/-- A load of one cell out of a box. -/
theorem o_load1 {qm : Bool} {T Tb : TypeId} {p : Operand} {b off : Nat} {cs : List Value} {fz : Nat × Nat} (hg : Wants ops E g) (hd : Nat.blt d n = true) (hagg : ∀ w, (isAgg T).run P w = .ok false w) (hp : ev E p = some (.pointer (some ⟨b, off, none⟩)))
    (hB : Item.box b (.cells cs.toArray Tb fz) ∈ B) (hr : Rd off 1 cs [v])
    (k : TL qm P ops Q rest n D ((d, v) :: E) (St w0 X I B)) : TL qm P ops Q (⟨some d, .load T p, ty, pos, aft, g⟩ :: rest) n D E (St w0 X I B) :=
  o_rd hg hd (v := v) (fun a w ha hw d pos aft g => ⟨w, by
    have hbox : w.heap[b]? = some (.cells cs.toArray Tb fz) := hw.own _ hB
    have e : cs[off]? = some v := by
      have h2 := congrArg (·[0]?) hr.eq.1
      simpa [List.getElem?_take, List.getElem?_drop] using h2.symm
    have hcell : w.cell? ⟨b, off, none⟩ = some v := by simp [World.cell?, hbox, e]
    simp [execOp, ha.ev hp, Instr.loadAt, Instr.sureAddr, loadVar, hagg, hcell, Result.andThen], rfl⟩) k
theorem o_loadA {qm : Bool} {T Tb : TypeId} {p : Operand} {b off sz : Nat} {cs r : List Value} {fz : Nat × Nat} (hg : Wants ops E g) (hd : Nat.blt d n = true) (hagg : ∀ w, (isAgg T).run P w = .ok true w) (hsz : ∀ w, (sizeOf T).run P w = .ok sz w) (hp : ev E p = some (.pointer (some ⟨b, off, none⟩)))
    (hB : Item.box b (.cells cs.toArray Tb fz) ∈ B) (hr : Rd off sz cs r)
    (k : TL qm P ops Q rest n D ((d, .agg r.toArray) :: E) (St w0 X I B)) : TL qm P ops Q (⟨some d, .load T p, ty, pos, aft, g⟩ :: rest) n D E (St w0 X I B) :=
  o_rd hg hd (v := .agg r.toArray) (fun a w ha hw d pos aft g => ⟨w, by
    have hbox : w.heap[b]? = some (.cells cs.toArray Tb fz) := hw.own _ hB
    have hl := hr.le
    have := run_loadCells_cs (P := P) w b off cs Tb fz sz hbox hl
    rw [← hr.eq.1] at this
    simp [execOp, ha.ev hp, Instr.loadAt, Instr.sureAddr, loadVar, hagg, hsz, this, Result.andThen], rfl⟩) k
/-- The address of a field. -/
theorem o_fieldAddr {qm : Bool} {t T : TypeId} {f off sz : Nat} {x : Operand} {fs : Array Field} {fl : Field} {b o : Nat} (hg : Wants ops E g) (hd : Nat.blt d n = true) (hu : P.underlying t = some (.struct fs)) (hf : fs[f]? = some fl) (ho : fl.offset = off) (ht : fl.type = T) (hsz : ∀ w, (sizeOf T).run P w = .ok sz w) (hs0 : Nat.blt 0 sz = true)
    (hx : ev E x = some (.pointer (some ⟨b, o, none⟩)))
    (k : TL qm P ops Q rest n D ((d, .pointer (some ⟨b, o + off, none⟩)) :: E) S) : TL qm P ops Q (⟨some d, .fieldAddr t x f, ty, pos, aft, g⟩ :: rest) n D E S :=
  o_rd hg hd (v := .pointer (some ⟨b, o + off, none⟩)) (fun a w ha hw d pos aft g => ⟨w, by
    subst ho; subst ht
    have h0 : ¬ sz = 0 := by
      have : 0 < sz := by simpa using hs0
      omega
    have hadd : (⟨b, o, none⟩ : Addr).add fl.offset = ⟨b, o + fl.offset, none⟩ := by unfold Addr.add; split <;> simp_all
    simp [execOp, ha.ev hx, Instr.fieldAt, Instr.sureAddr, run_underlying hu, hf, fieldPlace, hsz, h0, hadd, Result.andThen], rfl⟩) k
def evParts (E : Env) : List (Nat × Operand) → Option (List (Nat × Value))
  | [] => some []
  | (i, x) :: r => match ev E x with
    | some v => match evParts E r with
      | some vs => some ((i, v) :: vs)
      | none => none
    | none => none
theorem evParts_eq {a : Act} (ha : Fits n D E a) : ∀ {l : List (Nat × Operand)} {ps : List (Nat × Value)}, evParts E l = some ps → l.map (fun p => (p.1, a.eval p.2)) = ps
  | [], ps, h => by simp only [evParts, Option.some.injEq] at h; subst h; rfl
  | (i, x) :: l, ps, h => by
    simp only [evParts] at h
    split at h
    · rename_i v hv
      split at h
      · rename_i vs hvs
        cases h
        rw [List.map_cons, evParts_eq ha hvs, ha.ev hv]
      · cases h
    · cases h
/-- The cells of a struct that is written out: its zero cells, part by part. -/
inductive Bld (pl : List (Nat × Nat)) : List Value → List (Nat × Value) → List Value → Prop
  | nil {z : List Value} : Bld pl z [] z
  | cons {i off sz : Nat} {v : Value} {vs z z' z'' : List Value} {ps : List (Nat × Value)} : pl[i]? = some (off, sz) → v.cells = vs.toArray → vs.length = sz → Wr off z vs z' → Bld pl z' ps z'' → Bld pl z ((i, v) :: ps) z''
theorem foldl_wr : ∀ (vs : List Value) (k : Nat) (z : List Value) (off : Nat), off + k + vs.length ≤ z.length →
    (vs.zipIdx k).foldl (fun (cs : Array Value) (p : Value × Nat) => cs.setIfInBounds (off + p.2) p.1) z.toArray = (z.take (off + k) ++ vs ++ z.drop (off + k + vs.length)).toArray
  | [], k, z, off, h => by simp
  | v :: vs, k, z, off, h => by
    simp only [List.length_cons] at h
    rw [List.zipIdx_cons, List.foldl_cons]
    have e : (z.toArray.setIfInBounds (off + k) v) = (z.set (off + k) v).toArray := by simp
    simp only [e]
    rw [foldl_wr vs (k + 1) (z.set (off + k) v) off (by simp; omega)]
    congr 1
    have e1 : (z.set (off + k) v).take (off + (k + 1)) = z.take (off + k) ++ [v] := by
      rw [show off + (k + 1) = off + k + 1 by omega, List.take_succ_eq_append_getElem (by simp; omega)]
      simp [List.take_set_of_le]
    have e2 : (z.set (off + k) v).drop (off + (k + 1) + vs.length) = z.drop (off + k + (vs.length + 1)) := by
      rw [List.drop_set_of_lt (by omega)]
      congr 1; omega
    rw [e1, e2]
    simp
theorem Bld.fill {pl : List (Nat × Nat)} {z r : List Value} {ps : List (Nat × Value)} (h : Bld pl z ps r) : Instr.fill (pl.toArray[·]?) z.toArray ps = some r.toArray := by
  induction h with
  | nil => rfl
  | @cons i off sz v vs z z' z'' ps hp hv hl hw _ ih =>
    have hlen := hw.len.1
    have hp' : pl.toArray[i]? = some (off, sz) := by simpa using hp
    simp only [Instr.fill, hp']
    have hc : (v.cells.size ≠ sz || off + v.cells.size > z.toArray.size) = false := by
      rw [hv]
      simp [hl]
      omega
    rw [hc]
    simp only [Bool.false_eq_true, if_false]
    have e : (v.cells.zipIdx.foldl (fun cs (x : Value × Nat) => match x with | (c, j) => cs.setIfInBounds (off + j) c) z.toArray) = z'.toArray := by
      rw [hv, hw.eq]
      have := foldl_wr vs 0 z off (by omega)
      simp only [Nat.add_zero] at this
      rw [← this]
      simp [← Array.foldl_toList]
    rw [e]
    exact ih
/-- A struct type: its zero cells, and where its fields lie: a closed fact of a program's. -/
structure StructTy (P : Program) (t : TypeId) (z : List Value) (pl : List (Nat × Nat)) : Prop where
  fields : ∃ fs, P.underlying t = some (.struct fs) ∧ ∀ w, (fs.mapM (m := Sem) fun f => do pure (f.offset, ← sizeOf f.type)).run P w = .ok pl.toArray w
  zero : ∀ w, (zeroValue t).run P w = .ok (.agg z.toArray) w
theorem o_buildS {qm : Bool} {t : TypeId} {parts : List (Nat × Operand)} {ps : List (Nat × Value)} {z r : List Value} {pl : List (Nat × Nat)} (hg : Wants ops E g) (hd : Nat.blt d n = true) (ht : StructTy P t z pl) (hp : evParts E parts = some ps)
    (hb : Bld pl z ps r) (k : TL qm P ops Q rest n D ((d, .agg r.toArray) :: E) S) : TL qm P ops Q (⟨some d, .build t parts.toArray, ty, pos, aft, g⟩ :: rest) n D E S :=
  o_rd hg hd (v := .agg r.toArray) (fun a w ha hw d pos aft g => ⟨w, by
    have e : (parts.toArray.map fun (i, x) => (i, a.eval x)) = ps.toArray := by
      rw [List.map_toArray]
      exact congrArg _ (evParts_eq ha hp)
    obtain ⟨fs, hu, hm⟩ := ht.fields
    simp only [execOp, e, Instr.build, Sem.run_bind, ht.zero, Result.andThen_ok, run_underlying hu, Value.cells]
    erw [hm w]
    simp only [Result.andThen_ok, hb.fill]
    rfl, rfl⟩) k
/-- A struct written out. -/
theorem o_build {qm : Bool} {t : TypeId} {parts : List (Nat × Operand)} {ps : List (Nat × Value)} {r : Value} (hg : Wants ops E g) (hd : Nat.blt d n = true) (hp : evParts E parts = some ps)
    (hr : ∀ w, (Instr.build t ps.toArray).run P w = .ok r w)
    (k : TL qm P ops Q rest n D ((d, r) :: E) S) : TL qm P ops Q (⟨some d, .build t parts.toArray, ty, pos, aft, g⟩ :: rest) n D E S :=
  o_rd hg hd (v := r) (fun a w ha hw d pos aft g => ⟨w, by
    have e : (parts.toArray.map fun (i, x) => (i, a.eval x)) = ps.toArray := by
      rw [List.map_toArray]
      exact congrArg _ (evParts_eq ha hp)
    simp only [execOp, e, Sem.run_bind, hr, Result.andThen_ok]
    rfl, rfl⟩) k

/-! ### ranging over a string -/
theorem o_range {t : TypeId} {x : Operand} {s : ByteArray} (hg : Wants ops E g) (hd : Nat.blt d n = true) (hu : P.underlying t = some .string) (hx : ev E x = some (.string s))
    (k : ∀ b, TL false P ops Q rest n D ((d, .pointer (some ⟨b, 0, none⟩)) :: E) (St w0 X I (.box b (.stringIter s 0) :: B))) : TL false P ops Q (⟨some d, .range t x, ty, pos, aft, g⟩ :: rest) n D E (St w0 X I B) :=
  o_opX (ι := Nat) (V := fun b => .pointer (some ⟨b, 0, none⟩)) (SX := fun b => St w0 X I (.box b (.stringIter s 0) :: B)) (F := fun _ => True) hg hd
    (fun a w ha hw d pos aft g => ⟨w.alloc (.stringIter s 0), w.heap.size, by
      simp [execOp, ha.ev hx, run_range_string w t s hu, World.iter, Result.andThen],
      hw.new (But.alloc w _) (heap_alloc_new w _) (fun b hb => by cases hb; exact Nat.le_refl _), trivial⟩) (fun b _ => k b)
theorem o_next {x : Operand} {s : ByteArray} {b p : Nat} {B' : List Item} (hg : Wants ops E g) (hd : Nat.blt d n = true) (hx : ev E x = some (.pointer (some ⟨b, 0, none⟩)))
    (hB : Put B (.box b (.stringIter s p)) B' (.box b (.stringIter s (p + (Utf8.decode s p).2)))) (hp : p < s.size)
    (k : TL false P ops Q rest n D ((d, .tuple #[.bool true, .int .i64 p, .int .i32 (Utf8.decode s p).1]) :: E) (St w0 X I B')) : TL false P ops Q (⟨some d, .next x true, ty, pos, aft, g⟩ :: rest) n D E (St w0 X I B) :=
  o_op hg hd (v := .tuple #[.bool true, .int .i64 p, .int .i32 (Utf8.decode s p).1]) (S' := St w0 X I B') (fun a w ha hw d pos aft g => by
    have hbox : w.heap[b]? = some (.stringIter s p) := hw.own _ hB.mem
    refine ⟨{ w with heap := w.heap.setIfInBounds b (.stringIter s (p + (Utf8.decode s p).2)) }, ?_, hw.turn hB ?_ ?_ (fun _ h => .inl h)⟩
    · simp [execOp, ha.ev hx, Instr.next, getObj, setObj, Sem.run, hbox, hp, goInt, Result.andThen]
    · refine ⟨rfl, rfl, rfl, by simp, fun k hk hb => ?_⟩
      have : b ≠ k := fun e => hb (by rw [e]; rfl)
      simp [Array.getElem?_setIfInBounds, this]
    · show (w.heap.setIfInBounds b _)[b]? = _
      have hlt := (Array.getElem?_eq_some_iff.1 hbox).1
      simp [hlt]) k
theorem o_nextEnd {qm : Bool} {x : Operand} {s : ByteArray} {b p : Nat} (hg : Wants ops E g) (hd : Nat.blt d n = true) (hx : ev E x = some (.pointer (some ⟨b, 0, none⟩)))
    (hB : Item.box b (.stringIter s p) ∈ B) (hp : s.size ≤ p)
    (k : TL qm P ops Q rest n D ((d, .tuple #[.bool false]) :: E) (St w0 X I B)) : TL qm P ops Q (⟨some d, .next x true, ty, pos, aft, g⟩ :: rest) n D E (St w0 X I B) :=
  o_rd hg hd (v := .tuple #[.bool false]) (fun a w ha hw d pos aft g => ⟨w, by
    have hbox : w.heap[b]? = some (.stringIter s p) := hw.own _ hB
    have hn : ¬ p < s.size := by omega
    simp [execOp, ha.ev hx, Instr.next, getObj, Sem.run, hbox, hn, Result.andThen], rfl⟩) k

/-! ### results, in slots and in boxes -/
/-- What the results' places hold. -/
inductive Res (P : Program) (E : Env) (B : List Item) : List ResultVar → List Value → Prop
  | nil : Res P E B [] []
  | tmp {t : Nat} {v : Value} {rs : List ResultVar} {vs : List Value} : look E t = some v → Res P E B rs vs → Res P E B (.tmp t :: rs) (v :: vs)
  | agg {t T Tb : TypeId} {b sz : Nat} {cs : List Value} {rs : List ResultVar} {vs : List Value} : (∀ w, (isAgg T).run P w = .ok true w) → (∀ w, (sizeOf T).run P w = .ok sz w) → look E t = some (.pointer (some ⟨b, 0, none⟩)) →
      Item.box b (.cells cs.toArray Tb (0, 0)) ∈ B → cs.length = sz → Res P E B rs vs → Res P E B (.cell t T :: rs) (.agg cs.toArray :: vs)
  | one {t T Tb : TypeId} {b : Nat} {v : Value} {rs : List ResultVar} {vs : List Value} : (∀ w, (isAgg T).run P w = .ok false w) → look E t = some (.pointer (some ⟨b, 0, none⟩)) →
      Item.box b (.cells #[v] Tb (0, 0)) ∈ B → Res P E B rs vs → Res P E B (.cell t T :: rs) (v :: vs)
def tup : List Value → Value
  | [v] => v
  | vs => .tuple vs.toArray
theorem Res.run {rs : List ResultVar} {vs : List Value} (h : Res P E B rs vs) {a : Act} {w : World} (ha : Fits n D E a) (hw : St w0 X I B w) :
    (rs.mapM (m := Sem) fun
      | .tmp t => pure (a.tmps.getD t undef)
      | .cell q t => do loadVar t (← asAddr (a.tmps.getD q undef))).run P w = .ok vs w := by
  induction h with
  | nil => rfl
  | tmp hv _ ih =>
    have hget := ha.get _ _ hv
    rw [List.mapM_cons]
    simp only [hget, Sem.run_bind, Sem.run_pure, Result.andThen_ok, ih]
  | @agg t T Tb b sz cs rs vs hagg hsz hp hB hl _ ih =>
    have hget := ha.get _ _ hp
    have hbox : w.heap[b]? = some (.cells cs.toArray Tb (0, 0)) := hw.own _ hB
    have hld := run_loadCells_cs (P := P) w b 0 cs Tb (0, 0) sz hbox (by omega)
    have e : List.take sz cs = cs := List.take_of_length_le (by omega)
    rw [List.drop_zero, e] at hld
    have hh : (do loadVar T (← asAddr (a.tmps.getD t undef)) : Sem Value).run P w = .ok (.agg cs.toArray) w := by
      rw [hget]
      simp only [asAddr, loadVar, Sem.run_bind, Sem.run_pure, Result.andThen_ok, hagg, if_true, hsz, hld]
    rw [List.mapM_cons, Sem.run_bind]
    show Result.andThen ((do loadVar T (← asAddr (a.tmps.getD t undef)) : Sem Value).run P w) _ = _
    rw [hh]
    simp only [Result.andThen_ok, Sem.run_bind, ih, Sem.run_pure]
  | @one t T Tb b v rs vs hagg hp hB _ ih =>
    have hget := ha.get _ _ hp
    have hbox : w.heap[b]? = some (.cells #[v] Tb (0, 0)) := hw.own _ hB
    have hcell : w.cell? ⟨b, 0, none⟩ = some v := by simp [World.cell?, hbox]
    have hl : (load ⟨b, 0, none⟩).run P w = .ok v w := by rw [run_load, hcell]
    have hh : (do loadVar T (← asAddr (a.tmps.getD t undef)) : Sem Value).run P w = .ok v w := by
      rw [hget]
      simp only [asAddr, loadVar, Sem.run_bind, Sem.run_pure, Result.andThen_ok, hagg, Bool.false_eq_true, if_false, hl]
    rw [List.mapM_cons, Sem.run_bind]
    show Result.andThen ((do loadVar T (← asAddr (a.tmps.getD t undef)) : Sem Value).run P w) _ = _
    rw [hh]
    simp only [Result.andThen_ok, Sem.run_bind, ih, Sem.run_pure]
theorem retR {fn : Func} {rs : List ResultVar} {vs : List Value} {R : Value → World → Prop} (hres : fn.results = rs.toArray) (hr : Res P E B rs vs) (h : ∀ w, St w0 X I B w → R (tup vs) w) : TE (BP P fn R) .ret n [] E (St w0 X I B) := ⟨fun a w ha hw => by
  have hrun := hr.run ha hw
  refine bodyPost_ret (v := tup vs) ?_ ha.defs ⟨_, rfl, h w hw⟩
  simp only [results, hres, List.mapM_toArray, Sem.run_bind, Sem.run_map]
  erw [hrun]
  simp only [Result.andThen_ok, Sem.run_pure]
  cases vs with
  | nil => rfl
  | cons v r => cases r with
    | nil => rfl
    | cons v2 r => simp [tup]⟩
end
end Go.Tw
