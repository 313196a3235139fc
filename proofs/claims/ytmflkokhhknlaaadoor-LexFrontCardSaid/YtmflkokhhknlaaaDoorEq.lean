/-
  '==' and '!=' on structs, by relation: what two values of a type answer.
-/
import Derived.Test.YtmflkokhhknlaaaDoorSlice
import Derived.Laws.StructEq
namespace Go.Tw
open Go Go.RowKit
set_option linter.unusedVariables false
set_option linter.unusedSimpArgs false
set_option linter.unnecessarySimpa false
set_option maxHeartbeats 1000000
variable {P : Program}
def EqV (P : Program) (k : Nat) (t : TypeId) (x y : Value) (r : Bool) : Prop := ∀ d w, (Op.equalIn (d + k) t x y).run P w = .ok r w
def EqP (P : Program) (k : Nat) (fs : List Field) (xs ys : Array Value) (r : Bool) : Prop := ∀ d w, (Op.eqFields (d + k) xs ys fs).run P w = .ok r w
theorem EqV.int {k : Nat} {t : TypeId} {kd kd' : IntKind} {a b : Int} (h : P.underlying t = some (.int kd')) : EqV P (k + 1) t (.int kd a) (.int kd b) (a == b) := fun d w => run_equalIn_int w (d + k) t kd kd' a b h
theorem EqV.bool {k : Nat} {t : TypeId} {a b : Bool} (h : P.underlying t = some .bool) : EqV P (k + 1) t (.bool a) (.bool b) (a == b) := fun d w => run_equalIn_bool' w (d + k) t a b h
theorem EqV.str {k : Nat} {t : TypeId} {a b : ByteArray} (h : P.underlying t = some .string) : EqV P (k + 1) t (.string a) (.string b) (a.toList == b.toList) := fun d w => run_equalIn_string w (d + k) t a b h
theorem EqV.struct {k : Nat} {t : TypeId} {fs : Array Field} {xs ys : Array Value} {r : Bool} (h : P.underlying t = some (.struct fs)) (hs : P.stoodInHeld t = false) (hp : EqP P k fs.toList xs ys r) : EqV P (k + 1) t (.agg xs) (.agg ys) r := fun d w => by
  have e : P.fieldsOf t = fs := by unfold Program.fieldsOf; rw [h]
  show (Op.equalIn (d + k + 1) t _ _).run P w = _
  rw [run_equalIn_agg w (d + k) t xs ys (by rw [e]; exact h) hs, e]
  exact hp d w
/-- One field's value. -/
inductive Fld (P : Program) (T : TypeId) (o : Nat) (cs : List Value) : Value → Prop
  | one {v : Value} : (∀ w, (isAgg T).run P w = .ok false w) → Rd o 1 cs [v] → Fld P T o cs v
  | agg {sz : Nat} {r : List Value} : (∀ w, (isAgg T).run P w = .ok true w) → (∀ w, (sizeOf T).run P w = .ok sz w) → Rd o sz cs r → Fld P T o cs (.agg r.toArray)
theorem Fld.run {T : TypeId} {o : Nat} {cs : List Value} {v : Value} (h : Fld P T o cs v) (w : World) : (part T cs.toArray o).run P w = .ok v w := by
  cases h with
  | one ha hr =>
    have e : cs[o]? = some v := by
      have := hr.eq.1
      have h2 := congrArg (·[0]?) this
      simpa [List.getElem?_take, List.getElem?_drop] using h2.symm
    simp [part, ha, e, Result.andThen]
  | agg ha hz hr =>
    have e := hr.eq.1.symm
    simp [part, ha, hz, e, Result.andThen]
theorem EqP.last {k o : Nat} {T : TypeId} {f : Field} {xs ys : List Value} {x y : Value} {r : Bool} (hn : f.name ≠ "_") (ht : f.type = T) (ho : f.offset = o) (hx : Fld P T o xs x) (hy : Fld P T o ys y) (h : EqV P k T x y r) : EqP P k [f] xs.toArray ys.toArray r := fun d w => by
  subst ht; subst ho
  simp only [Op.eqFields, if_pos hn, Sem.run_bind, hx.run, hy.run, Result.andThen_ok, h d w, Sem.run_ite, Sem.run_pure]
  cases r <;> rfl
theorem EqP.cons {k o : Nat} {T : TypeId} {f : Field} {fs : List Field} {xs ys : List Value} {x y : Value} {r s : Bool} (hn : f.name ≠ "_") (ht : f.type = T) (ho : f.offset = o) (hx : Fld P T o xs x) (hy : Fld P T o ys y) (h : EqV P k T x y r) (hs : EqP P k fs xs.toArray ys.toArray s) : EqP P k (f :: fs) xs.toArray ys.toArray (r && s) := fun d w => by
  subst ht; subst ho
  have := hs d w
  simp only [Op.eqFields, if_pos hn, Sem.run_bind, hx.run, hy.run, Result.andThen_ok, h d w, Sem.run_ite, Sem.run_pure]
  cases r
  · rfl
  · simpa using this

variable {X : List Nat} {w0 : World} {I : Hp} {B : List Item}
variable {Q : Exit → Act → World → Prop} {ops : Array Oper} {rest : List Oper} {n d : Nat} {D : List Deferred} {E : Env} {S : World → Prop} {ty : TypeId} {pos : String} {aft : Array Edge} {g : Option (Nat × Bool)} {v : Value}
theorem o_eqlV {qm : Bool} {x y : Operand} {t t2 : TypeId} {xs ys : Array Value} {r : Bool} (hg : Wants ops E g) (hd : Nat.blt d n = true) (hx : ev E x = some (.agg xs)) (hy : ev E y = some (.agg ys)) (hm : P.eqGuardType P.depth t = false) (h : EqV P 20 t (.agg xs) (.agg ys) r)
    (k : TL qm P ops Q rest n D ((d, .bool r) :: E) S) : TL qm P ops Q (⟨some d, .binOp .eql t x y t2, ty, pos, aft, g⟩ :: rest) n D E S :=
  o_bin hg hd hx hy (fun w => by rw [Sem.run_bind, run_eqGuard_agg w _ _ _ _ _ _ hm, Result.andThen_ok, run_eql_struct, h 9980 w]; rfl) k
theorem o_neqV {qm : Bool} {x y : Operand} {t t2 : TypeId} {xs ys : Array Value} {r : Bool} (hg : Wants ops E g) (hd : Nat.blt d n = true) (hx : ev E x = some (.agg xs)) (hy : ev E y = some (.agg ys)) (hm : P.eqGuardType P.depth t = false) (h : EqV P 20 t (.agg xs) (.agg ys) r)
    (k : TL qm P ops Q rest n D ((d, .bool (!r)) :: E) S) : TL qm P ops Q (⟨some d, .binOp .neq t x y t2, ty, pos, aft, g⟩ :: rest) n D E S :=
  o_bin hg hd hx hy (fun w => by rw [Sem.run_bind, run_eqGuard_agg w _ _ _ _ _ _ hm, Result.andThen_ok, run_neq_struct, h 9980 w]; rfl) k
theorem o_eqlB {qm : Bool} {x y : Operand} {t t2 : TypeId} {a b : Bool} (hg : Wants ops E g) (hd : Nat.blt d n = true) (hx : ev E x = some (.bool a)) (hy : ev E y = some (.bool b)) (ht : P.underlying t = some .bool)
    (k : TL qm P ops Q rest n D ((d, .bool (a == b)) :: E) S) : TL qm P ops Q (⟨some d, .binOp .eql t x y t2, ty, pos, aft, g⟩ :: rest) n D E S :=
  o_bin hg hd hx hy (fun w => by
    have h := EqV.bool (P := P) (k := 0) (a := a) (b := b) ht 9999 w
    simp only [Sem.run_bind, eqGuard, binOp, Op.equal, Op.maxDepth]
    simp [h, Result.andThen]) k
theorem o_neqB {qm : Bool} {x y : Operand} {t t2 : TypeId} {a b : Bool} (hg : Wants ops E g) (hd : Nat.blt d n = true) (hx : ev E x = some (.bool a)) (hy : ev E y = some (.bool b)) (ht : P.underlying t = some .bool)
    (k : TL qm P ops Q rest n D ((d, .bool (!(a == b))) :: E) S) : TL qm P ops Q (⟨some d, .binOp .neq t x y t2, ty, pos, aft, g⟩ :: rest) n D E S :=
  o_bin hg hd hx hy (fun w => by
    have h := EqV.bool (P := P) (k := 0) (a := a) (b := b) ht 9999 w
    simp only [Sem.run_bind, eqGuard, binOp, Op.equal, Op.maxDepth]
    simp [h, Result.andThen]) k
end Go.Tw
