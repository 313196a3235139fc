/-
  ValueDenotes, part 1: the texts Core, Logic, State, Ops, Lift, CallT, Take, Slice, Row, Row2, Arr, Words, Words2, Words3, Nat0, Open, Order, Held, Panic, Range, Eq, Ali, Types as one.
-/
import Derived.WalkKit
import Derived.Deep.Quiet
import Derived.Deep.LoopGhost
import Derived.Shelf.Abstract
import Derived.Laws.RangeAny
import Derived.Lib.OthersKept
import Derived.ProofKit
import Derived.OpenShut
import Derived.Deep.DeepHandedRow
import Derived.Lib.LaidU8
import Derived.Laws.BytesString
import Derived.Maps.AppendAt
import Derived.Laws.OwnMore
import Derived.Laws.CopyRow
import Derived.Laws.Bits64b
import Derived.Laws.CopyOwn
import Derived.Deep.Slices
import Derived.OrdersHeld
import Derived.Scope
import Derived.Recover
import Derived.RangeFuncRecord
import Derived.Laws.StructEq
import Derived.Test.YtoincnplajnpnaaGreatProg
open Go.Proofs.Tryz
set_option linter.unusedVariables false
set_option linter.unusedSimpArgs false
set_option linter.unnecessarySimpa false
set_option maxHeartbeats 1000000
namespace Go.Tw
open Go Go.RowKit
theorem bl : (∀ a b : Bool, ((a || b) = true) = (a = true ∨ b = true)) ∧ (∀ a b : Bool, ((a && b) = true) = (a = true ∧ b = true)) ∧ (∀ a b : Bool, ((a || b) = false) = (a = false ∧ b = false)) ∧ (∀ a b : Bool, ((a && b) = false) = (a = false ∨ b = false))
 ∧ (∀ (p : Prop) [Decidable p],(decide p = true) = p) ∧ (∀ (p : Prop) [Decidable p],(decide p = false) = ¬ p) ∧ (∀ {α : Type} [BEq α] [LawfulBEq α] (a b : α),((a == b) = true) = (a = b)) ∧ (∀ {α : Type} [BEq α] [LawfulBEq α] (a b : α),((a == b) = false) = ¬ (a = b))
 ∧ (∀ {α : Type} [BEq α] [LawfulBEq α] (a b : α),((a != b) = true) = ¬ (a = b)) ∧ (∀ {α : Type} [BEq α] [LawfulBEq α] (a b : α),((a != b) = false) = (a = b)) ∧ (∀ b : Bool,((!b) = true) = (b = false)) ∧ (∀ b : Bool,((!b) = false) = (b = true)) ∧ (∀ {α : Type} (a b : α),(a ≠ b) = ¬ (a = b))
 ∧ (∀ a b : Int,(¬ (a < b)) = (b ≤ a)) ∧ (∀ a b : Int,(¬ (a ≤ b)) = (b < a)) ∧ (∀ {α : Type} [LE α] (a b : α),(a ≥ b) = (b ≤ a)) ∧ (∀ {α : Type} [LT α] (a b : α),(a > b) = (b < a)) := by
 refine ⟨?_,?_,?_,?_,?_,?_,?_,?_,?_,?_,?_,?_,?_,?_,?_,?_,?_⟩ <;> intros <;> first | (simp; done) | (rename_i a b; cases a <;> cases b <;> simp)
abbrev Env := List (Nat × Value)
def look : List (Nat × Value) → Nat → Option Value
 | [],_ => none
 | (j, v) :: r, i => match Nat.beq i j with
   | true => some v
   | false => look r i
def ev (E : Env) : Operand → Option Value
 | .tmp t => look E t
 | .const v => some v
 | .global g => some (.pointer (some ⟨g,0,none⟩))
 | .func f => some (.func (.func f) #[] #[])
def evs (E : Env) : List Operand → Option (List Value)
 | [] => some []
 | x :: r => match ev E x with
   | some v => match evs E r with
     | some vs => some (v :: vs)
     | none => none
   | none => none
structure Fits (n : Nat) (D : List Deferred) (E : Env) (a : Act) : Prop where
 size : a.tmps.size = n
 defs : a.defers = D
 get : ∀ i v,look E i = some v → a.tmps.getD i undef = v
theorem Fits.ev {n : Nat} {D : List Deferred} {E : Env} {a : Act} {x : Operand} {v : Value} (h : Fits n D E a) (hx : ev E x = some v) : a.eval x = v := by
 cases x with
 | tmp t => exact h.get t v hx
 | const c => exact Option.some.inj hx
 | global g => exact Option.some.inj hx
 | func f => exact Option.some.inj hx
theorem Fits.evs {n : Nat} {D : List Deferred} {E : Env} {a : Act} (h : Fits n D E a) : ∀ {xs : List Operand} {vs : List Value}, evs E xs = some vs → xs.map a.eval = vs
 | [],vs,hx => by simp only [Tw.evs,Option.some.injEq] at hx; subst hx; rfl
 | x :: r, vs, hx => by
   simp only [Tw.evs] at hx
   cases h1 : Tw.ev E x with
   | none => simp [h1] at hx
   | some v =>
     cases h2 : Tw.evs E r with
     | none => simp [h1,h2] at hx
     | some ws =>
       simp only [h1,h2,Option.some.injEq] at hx
       subst hx
       rw [List.map_cons,h.ev h1,Fits.evs h h2]
theorem qbr (a : Act) (d : Nat) (v : Value) (i : Nat) : (a.put (some d) v).tmps.getD i undef = if d = i ∧ i < a.tmps.size then v else a.tmps.getD i undef := by
 simp only [Act.put,Array.getD_eq_getD_getElem?,Array.getElem?_setIfInBounds]
 by_cases h : d = i
 · subst h
   by_cases h2 : d < a.tmps.size
   · simp [h2]
   · simp [h2]
 · simp [h]
theorem qba (E : Env) (i : Nat) (v : Value) : look ((i,v) :: E) i = some v := by
 have : Nat.beq i i = true := Nat.beq_refl i
 simp only [look,this]
theorem qfc (E : Env) {i j : Nat} (v : Value) (h : i ≠ j) : look ((j,v) :: E) i = look E i := by
 have : Nat.beq i j = false := by
   cases hb : Nat.beq i j with
   | false => rfl
   | true => exact absurd (Nat.eq_of_beq_eq_true hb) h
 simp only [look,this]
theorem Fits.put {n : Nat} {D : List Deferred} {E : Env} {a : Act} (h : Fits n D E a) {d : Nat} (hd : Nat.blt d n = true) (v : Value) : Fits n D ((d,v) :: E) (a.put (some d) v) := by
 have hd' : d < n := by simpa [Nat.blt_eq] using hd
 refine ⟨by simp [Act.put,h.size],h.defs,fun i u hu => ?_⟩
 rw [qbr]
 by_cases hi : i = d
 · subst hi
   rw [qba] at hu
   rw [if_pos ⟨rfl,by rw [h.size]; exact hd'⟩]
   exact Option.some.inj hu
 · rw [qfc _ _ hi] at hu
   rw [if_neg (fun e => hi e.1.symm)]
   exact h.get i u hu
def Sub : Env → Env → Prop
 | [],_ => True
 | (i,v) :: r,E => look E i = some v ∧ Sub r E
theorem sN {E : Env} : Sub [] E := trivial
theorem sC {i : Nat} {v : Value} {r E : Env} (h : look E i = some v) (hr : Sub r E) : Sub ((i,v) :: r) E := ⟨h,hr⟩
theorem Sub.look {E' E : Env} (h : Sub E' E) {i : Nat} {v : Value} (hi : Tw.look E' i = some v) : Tw.look E i = some v := by
 induction E' with
 | nil => cases hi
 | cons p r ih =>
   obtain ⟨j,u⟩ := p
   by_cases hij : i = j
   · subst hij
     rw [qba] at hi
     rw [← Option.some.inj hi]
     exact h.1
   · rw [qfc _ _ hij] at hi
     exact ih h.2 hi
theorem Fits.weaken {n : Nat} {D : List Deferred} {E E' : Env} {a : Act} (h : Fits n D E a) (hs : Sub E' E) : Fits n D E' a :=
 ⟨h.size,h.defs,fun i v hi => h.get i v (hs.look hi)⟩
structure TC (P : Program) (c : Code) (Q : Exit → Act → World → Prop) (n : Nat) (D : List Deferred) (E : Env) (S : World → Prop) : Prop where
 out : ∀ a w,Fits n D E a → S w → c.wp P Q a w
def wpM (qm : Bool) (P : Program) (ops : Array Oper) (Q : Exit → Act → World → Prop) (S : World → Prop) (l : List Oper) (a : Act) (w : World) : Prop :=
 match qm with
 | false => wpList P ops Q l a w
 | true => wpQuiet P ops S (fun a' => ∀ w',S w' → Q .normal a' w') l a
structure TL (qm : Bool) (P : Program) (ops : Array Oper) (Q : Exit → Act → World → Prop) (l : List Oper) (n : Nat) (D : List Deferred) (E : Env) (S : World → Prop) : Prop where
 out : ∀ a w,Fits n D E a → S w → wpM qm P ops Q S l a w
structure TE (Q : Exit → Act → World → Prop) (e : Exit) (n : Nat) (D : List Deferred) (E : Env) (S : World → Prop) : Prop where
 out : ∀ a w,Fits n D E a → S w → Q e a w
structure qly {ι : Type} (EJ : ι → Env) (SJ : ι → World → Prop) (FJ : ι → Prop) (n : Nat) (D : List Deferred) (a : Act) (w : World) : Prop where
 out : ∃ i,FJ i ∧ Fits n D (EJ i) a ∧ SJ i w
structure qlz {ι : Type} (k : Nat) (m : ι → Nat) (EI : ι → Env) (SI : ι → World → Prop) (FI : ι → Prop) (n : Nat) (D : List Deferred) (a : Act) (w : World) : Prop where
 out : ∃ i,m i < k ∧ FI i ∧ Fits n D (EI i) a ∧ SI i w
inductive Kept (E : Env) : List Nat → Env → Prop
 | nil : Kept E [] []
 | cons {i : Nat} {v : Value} {ks : List Nat} {E' : Env} : look E i = some v → Kept E ks E' → Kept E (i :: ks) ((i,v) :: E')
theorem Kept.sub {E E' : Env} {ks : List Nat} (h : Kept E ks E') : Sub E' E := by
 induction h with
 | nil => exact sN
 | cons h _ ih => exact sC h ih
section
variable {P : Program} {K K' : Act → World → Prop} {Q : Exit → Act → World → Prop} {n : Nat} {D : List Deferred} {E : Env} {S S' : World → Prop}
theorem qs9 {ops : Array Oper} {l : List Oper} (hs : ∀ w,S w → S' w) (h : TL false P ops Q l n D E S') : TL false P ops Q l n D E S := ⟨fun a w ha hw => h.out a w ha (hs w hw)⟩
theorem tC {y : Code} (h : TC P y Q n D E S) : TE (Exit.then (y.wp P Q) Q) .normal n D E S := ⟨fun a w ha hw => h.out a w ha hw⟩
theorem tR (h : TE Q .ret n D E S) : TE (Exit.then K Q) .ret n D E S := ⟨h.out⟩
theorem qc {i : Nat} (h : TE Q (.exit i) n D E S) : TE (Exit.then K Q) (.exit i) n D E S := ⟨h.out⟩
theorem yd {ch : List PanicEntry} (h : TE Q (.panic ch) n D E S) : TE (Exit.then K Q) (.panic ch) n D E S := ⟨h.out⟩
theorem qe {i : Nat} (h : TE Q .normal n D E S) : TE (Exit.inBlock i Q) .normal n D E S := ⟨h.out⟩
theorem qd {i : Nat} (h : TE Q .ret n D E S) : TE (Exit.inBlock i Q) .ret n D E S := ⟨h.out⟩
theorem j4 {i : Nat} {ch : List PanicEntry} (h : TE Q (.panic ch) n D E S) : TE (Exit.inBlock i Q) (.panic ch) n D E S := ⟨h.out⟩
theorem qp {i j : Nat} (hij : Nat.beq j i = true) (h : TE Q .normal n D E S) : TE (Exit.inBlock i Q) (.exit j) n D E S := ⟨fun a w ha hw => by
 show (if j = i then Q .normal a w else Q (.exit j) a w)
 rw [if_pos (Nat.eq_of_beq_eq_true hij)]; exact h.out a w ha hw⟩
theorem ye {i j : Nat} (hij : Nat.beq j i = false) (h : TE Q (.exit j) n D E S) : TE (Exit.inBlock i Q) (.exit j) n D E S := ⟨fun a w ha hw => by
 show (if j = i then Q .normal a w else Q (.exit j) a w)
 rw [if_neg (fun e => by subst e; simp at hij)]; exact h.out a w ha hw⟩
theorem cS {x y : Code} (h : TC P x (Exit.then (y.wp P Q) Q) n D E S) : TC P (.seq x y) Q n D E S := ⟨fun a w ha hw => wp_seq (h.out a w ha hw)⟩
theorem cK (h : TE Q .normal n D E S) : TC P .skip Q n D E S := ⟨fun a w ha hw => wp_skip (h.out a w ha hw)⟩
theorem cT (h : TE Q .ret n D E S) : TC P .ret Q n D E S := ⟨fun a w ha hw => wp_ret (h.out a w ha hw)⟩
theorem qq {i : Nat} (h : TE Q (.exit i) n D E S) : TC P (.exit i) Q n D E S := ⟨fun a w ha hw => wp_exit (h.out a w ha hw)⟩
theorem qta {l : Nat} (h : TE Q .normal n D E S) : TC P (.label l) Q n D E S := ⟨fun a w ha hw => wp_label (h.out a w ha hw)⟩
theorem cB {i : Nat} {c : Code} (h : TC P c (Exit.inBlock i Q) n D E S) : TC P (.block i c) Q n D E S := ⟨fun a w ha hw => wp_block (h.out a w ha hw)⟩
theorem jn {i : Nat} {l : List Oper} (hm : P.follows .mixedOrders = true) (hB : Region.lexB .any l.toArray = true) (hd : ∀ w, S w → S { w with drawn := w.drawn + 1 }) (h : TL true P l.toArray Q l n D E S) : TC P (.region i l.toArray true) Q n D E S := ⟨fun a w ha hw =>
 wp_region_quiet (C := S) hm hB (hd w hw) (h.out a w ha hw)⟩
theorem cR {i : Nat} {l : List Oper} (h : TL false P l.toArray Q l n D E S) : TC P (.region i l.toArray false) Q n D E S := ⟨fun a w ha hw => wp_region_lit (h.out a w ha hw)⟩
theorem cC {c : Operand} {x y : Code} {b : Bool} (hc : ev E c = some (.bool b)) (h1 : b = true → TC P x Q n D E S) (h0 : b = false → TC P y Q n D E S) : TC P (.cond c x y) Q n D E S := ⟨fun a w ha hw => by
 cases b
 · exact wp_cond_false (ha.ev hc) ((h0 rfl).out a w ha hw)
 · exact wp_cond_true (ha.ev hc) ((h1 rfl).out a w ha hw)⟩
theorem ql0 {c : Operand} {x y : Code} {b : Bool} (hc : ev E c = some (.bool b)) (hb : b = true) (h1 : TC P x Q n D E S) : TC P (.cond c x y) Q n D E S :=
 cC hc (fun _ => h1) (fun h => by rw [hb] at h; cases h)
theorem qie {c : Operand} {x y : Code} {b : Bool} (hc : ev E c = some (.bool b)) (hb : b = false) (h0 : TC P y Q n D E S) : TC P (.cond c x y) Q n D E S :=
 cC hc (fun h => by rw [hb] at h; cases h) (fun _ => h0)
theorem jk {x y : Code} {ι : Type} (ks : List Nat) {E0 : Env} (hk : Kept E ks E0) (EJ : ι → Env → Env) (SJ : ι → World → Prop) (FJ : ι → Prop) (h1 : TC P x (Exit.then (qly (fun i => EJ i E0) SJ FJ n D) Q) n D E S)
   (h2 : ∀ i,FJ i → TC P y Q n D (EJ i E0) (SJ i)) : TC P (.seq x y) Q n D E S := ⟨fun a w ha hw =>
 wp_seq (wp_mono (h1.out a w ha hw) fun e _ w' q => by
   cases e with
   | normal => obtain ⟨i,hF,hf,hS⟩ := q.out; exact (h2 i hF).out _ _ hf hS
   | _ => exact q)⟩
theorem meet {ι : Type} {EJ : ι → Env} {SJ : ι → World → Prop} {FJ : ι → Prop} (i : ι) (hs : Sub (EJ i) E) (hS : ∀ w,S w → SJ i w) (hF : FJ i) : TE (Exit.then (qly EJ SJ FJ n D) Q) .normal n D E S := ⟨fun _ w ha hw => ⟨i,hF,ha.weaken hs,hS w hw⟩⟩
theorem qu {c : Code} {ι : Type} (ks : List Nat) {E0 : Env} (hk : Kept E ks E0) (m : ι → Nat) (EI : ι → Env → Env) (SI : ι → World → Prop) (FI : ι → Prop) (i0 : ι) (hs : Sub (EI i0 E0) E) (hS : ∀ w, S w → SI i0 w) (h0 : FI i0)
   (round : ∀ i,FI i → TC P c (Exit.then (qlz (m i) m (fun i => EI i E0) SI FI n D) Q) n D (EI i E0) (SI i)) : TC P (.loop c) Q n D E S := ⟨by
 intro a w ha hw
 refine wp_loop_ghost (fun k a w => ∃ i,m i = k ∧ FI i ∧ Fits n D (EI i E0) a ∧ SI i w) (m i0) ⟨i0,rfl,h0,ha.weaken hs,hS w hw⟩ ?_;rintro k a w ⟨i,rfl,hF,hf,hS⟩;refine wp_mono ((round i hF).out a w hf hS) fun e _ _ q => ?_
 cases e with
 | normal => obtain ⟨i',hlt,hF',hf',hS'⟩ := q.out; exact ⟨m i',hlt,i',rfl,hF',hf',hS'⟩
 | _ => exact q⟩
theorem qj {ι : Type} {k : Nat} {m : ι → Nat} {EI : ι → Env} {SI : ι → World → Prop} {FI : ι → Prop} (i : ι) (hs : Sub (EI i) E) (hS : ∀ w, S w → SI i w) (hm : m i < k) (hF : FI i) : TE (Exit.then (qlz k m EI SI FI n D) Q) .normal n D E S :=
 ⟨fun _ w ha hw => ⟨i,hm,hF,ha.weaken hs,hS w hw⟩⟩
def qar (ops : Array Oper) (j : Nat) : Option Tmp := (ops[j]?).bind (·.dst)
def qi (ops : Array Oper) (E : Env) : Option (Nat × Bool) → Prop
 | none => True
 | some (j,want) => ∃ d,qar ops j = some d ∧ ∃ b,look E d = some (.bool b) ∧ b = want
def qtb (ops : Array Oper) (E : Env) : Option (Nat × Bool) → Prop
 | none => False
 | some (j,want) => ∃ d,qar ops j = some d ∧ ∃ v,look E d = some v ∧ ∀ b,v = .bool b → b = !want
theorem wS {ops : Array Oper} {E : Env} {j : Nat} {want : Bool} {d : Nat} {b : Bool} (h1 : qar ops j = some d) (h2 : look E d = some (.bool b)) (h3 : b = want) : qi ops E (some (j,want)) := ⟨d,h1,b,h2,h3⟩
theorem qtc {a : Array Value} {i : Nat} {v : Value} (h : a.getD i undef = v) (hv : v ≠ undef) : a[i]? = some v := by
 rw [Array.getD_eq_getD_getElem?] at h
 cases hc : a[i]? with
 | none => rw [hc] at h; exact absurd h.symm hv
 | some u => rw [hc] at h; exact congrArg some h
theorem z7 {ops : Array Oper} {o : Oper} {a : Act} (h : qi ops E o.guard) (hf : Fits n D E a) : Region.wanted o (yielded ops a.tmps) = true := by
 unfold Region.wanted
 cases hg : o.guard with
 | none => rfl
 | some p =>
   obtain ⟨j,want⟩ := p
   rw [hg] at h
   obtain ⟨d,hd,b,hb,rfl⟩ := h
   have h1 := qtc (hf.get d _ hb) (fun e => by cases e)
   simp only [yielded]
   have : ((ops[j]?).bind (·.dst)) = some d := hd
   rw [this]
   simp [h1]
theorem ql1 {ops : Array Oper} {o : Oper} {a : Act} (h : qtb ops E o.guard) (hf : Fits n D E a) : Region.wanted o (yielded ops a.tmps) = false := by
 unfold Region.wanted
 cases hg : o.guard with
 | none => rw [hg] at h; exact h.elim
 | some p =>
   obtain ⟨j,want⟩ := p
   rw [hg] at h
   obtain ⟨d,hd,v,hv,hb⟩ := h
   have h0 := hf.get d _ hv
   simp only [yielded]
   have : ((ops[j]?).bind (·.dst)) = some d := hd
   rw [this]
   simp only [Option.bind_some]
   rw [Array.getD_eq_getD_getElem?] at h0
   cases hc : a.tmps[d]? with
   | none => cases want <;> rfl
   | some u =>
     rw [hc] at h0
     simp only [Option.getD_some] at h0
     subst h0
     cases u with
     | bool b =>
       have e := hb b rfl
       subst e
       cases want <;> rfl
     | _ => cases want <;> rfl
def Runs (P : Program) (n : Nat) (D : List Deferred) (E : Env) (op : Op) (ty : TypeId) (S : World → Prop) (v : Value) (S' : World → Prop) : Prop :=
 ∀ a w,Fits n D E a → S w → ∀ d pos aft g,∃ w',(execOp a.eval ⟨d,op,ty,pos,aft,g⟩).run P w = .ok (.value v) w' ∧ S' w'
def qgl (P : Program) (n : Nat) (D : List Deferred) (E : Env) (op : Op) (ty : TypeId) (S : World → Prop) (v : Value) : Prop :=
 ∀ a w,Fits n D E a → S w → ∀ d pos aft g,∃ w',(execOp a.eval ⟨d,op,ty,pos,aft,g⟩).run P w = .ok (.value v) w' ∧ w' = w
def qif (P : Program) (n : Nat) (D : List Deferred) (E : Env) (op : Op) (ty : TypeId) (S : World → Prop) (S' : World → Prop) : Prop :=
 ∀ a w,Fits n D E a → S w → ∀ d pos aft g,∃ w',(execOp a.eval ⟨d,op,ty,pos,aft,g⟩).run P w = .ok .skip w' ∧ S' w'
def qtd (P : Program) (n : Nat) (D : List Deferred) (E : Env) (op : Op) (ty : TypeId) (S : World → Prop) {ι : Type} (V : ι → Value) (S' : ι → World → Prop) (F : ι → Prop) : Prop :=
 ∀ a w,Fits n D E a → S w → ∀ d pos aft g,∃ w' i,(execOp a.eval ⟨d,op,ty,pos,aft,g⟩).run P w = .ok (.value (V i)) w' ∧ S' i w' ∧ F i
section
variable {ops : Array Oper} {rest : List Oper} {d : Nat} {op : Op} {ty : TypeId} {pos : String} {aft : Array Edge} {g : Option (Nat × Bool)} {v : Value}
theorem oN {qm : Bool} (h : TE Q .normal n D E S) : TL qm P ops Q [] n D E S := ⟨fun a w ha hw => by
 cases qm
 · exact h.out a w ha hw
 · exact fun w' hw' => h.out a w' ha hw'⟩
theorem qbb {o : Oper} {a : Act} {w : World} (hw : Region.wanted o (yielded ops a.tmps) = true) (h : o.wp P a w (wpList P ops Q rest) Q) : wpList P ops Q (o :: rest) a w := by
 unfold wpList
 rw [if_pos hw]
 exact .inl h
theorem o_op (hg : qi ops E g) (hd : Nat.blt d n = true) (hr : Runs P n D E op ty S v S') (k : TL false P ops Q rest n D ((d, v) :: E) S') : TL false P ops Q (⟨some d, op, ty, pos, aft, g⟩ :: rest) n D E S := ⟨fun a w ha hw => by
 refine qbb (z7 hg ha) ?_
 unfold Oper.wp
 obtain ⟨w',h1,h2⟩ := hr a w ha hw (some d) pos aft g
 rw [h1]
 exact k.out _ _ (ha.put hd v) h2⟩
theorem qas {ι : Type} {V : ι → Value} {SX : ι → World → Prop} {F : ι → Prop} (hg : qi ops E g) (hd : Nat.blt d n = true) (hr : qtd P n D E op ty S V SX F) (k : ∀ i, F i → TL false P ops Q rest n D ((d, V i) :: E) (SX i)) : TL false P ops Q (⟨some d, op, ty, pos, aft, g⟩ :: rest) n D E S := ⟨fun a w ha hw => by
 refine qbb (z7 hg ha) ?_
 unfold Oper.wp
 obtain ⟨w',i,h1,h2,h3⟩ := hr a w ha hw (some d) pos aft g
 rw [h1]
 exact (k i h3).out _ _ (ha.put hd _) h2⟩
theorem qgm (hg : qi ops E g) (hr : qif P n D E op ty S S') (k : TL false P ops Q rest n D E S') : TL false P ops Q (⟨none, op, ty, pos, aft, g⟩ :: rest) n D E S := ⟨fun a w ha hw => by
 refine qbb (z7 hg ha) ?_
 unfold Oper.wp
 obtain ⟨w',h1,h2⟩ := hr a w ha hw none pos aft g
 rw [h1]
 exact k.out _ _ ha h2⟩
theorem o_rd {qm : Bool} (hg : qi ops E g) (hd : Nat.blt d n = true) (hr : qgl P n D E op ty S v) (k : TL qm P ops Q rest n D ((d, v) :: E) S) : TL qm P ops Q (⟨some d, op, ty, pos, aft, g⟩ :: rest) n D E S := ⟨fun a w ha hw => by
 cases qm
 · refine qbb (z7 hg ha) ?_
   unfold Oper.wp
   obtain ⟨w',h1,h2⟩ := hr a w ha hw (some d) pos aft g
   rw [h1,h2]
   exact k.out _ _ (ha.put hd v) hw
 · show wpQuiet _ _ _ _ (_ :: _) _
   unfold wpQuiet
   rw [if_pos (z7 hg ha)]
   refine ⟨v,fun w1 hw1 => ?_,k.out _ w (ha.put hd v) hw⟩
   obtain ⟨w',h1,h2⟩ := hr a w1 ha hw1 (some d) pos aft g
   unfold Oper.quietAt
   rw [h1,h2]
   exact ⟨rfl,rfl⟩⟩
def Ret (P : Program) (f : FuncId) (args : Array Value) (w : World) (R : Value → World → Prop) : Prop := Calls P f args w fun e w' => ∃ v,e = .returned v ∧ R v w'
theorem Ret.mono {f : FuncId} {args : Array Value} {w : World} {R R' : Value → World → Prop} (h : Ret P f args w R) (hr : ∀ v w', R v w' → R' v w') : Ret P f args w R' :=
 Calls.mono h fun _ _ ⟨v,e,r⟩ => ⟨v,e,hr _ _ r⟩
theorem qgn {f : FuncId} {args : List Operand} {ats : Array TypeId} {vs : List Value} {ι : Type} {V : ι → Value} {SX : ι → World → Prop} {F : ι → Prop} (hg : qi ops E g) (hd : Nat.blt d n = true) (he : ∀ args w, (callFunc f args).run P w = .ok (.enter f args) w) (ha : evs E args = some vs)
   (hc : ∀ w,S w → Ret P f vs.toArray w fun v w' => ∃ i,v = V i ∧ F i ∧ SX i w') (k : ∀ i,F i → TL false P ops Q rest n D ((d,V i) :: E) (SX i)) :
   TL false P ops Q (⟨some d,.call { callee := .value (.func f),args := args.toArray,argTypes := ats },ty,pos,aft,g⟩ :: rest) n D E S := ⟨fun a w hf hw => by
 refine qbb (z7 hg hf) ?_
 have hargs : (args.toArray.map a.eval) = vs.toArray := by
   rw [List.map_toArray,hf.evs ha]
 have hrun : (execOp a.eval ⟨some d,.call { callee := .value (.func f),args := args.toArray,argTypes := ats },ty,pos,aft,g⟩).run P w = .ok (.enter f vs.toArray) w := by
   simp only [execOp,resolve,Act.eval,Deferred.ofValue,hargs,Sem.run_bind,Sem.run_pure,Result.andThen_ok,invoke]
   simpa using he vs.toArray w
 unfold Oper.wp
 rw [hrun]
 refine Calls.mono (hc w hw) ?_;rintro e w'' ⟨v,rfl,i,rfl,hF,hS⟩;exact (k i hF).out _ _ (hf.put hd _) hS⟩
theorem ql2 {qm : Bool} {f : FuncId} {args : List Operand} {ats : Array TypeId} {vs : List Value} (hg : qi ops E g) (hd : Nat.blt d n = true) (he : ∀ args w, (callFunc f args).run P w = .ok (.enter f args) w) (ha : evs E args = some vs)
   (hc : ∀ w,S w → Ret P f vs.toArray w fun u w' => u = v ∧ S w') (k : TL qm P ops Q rest n D ((d,v) :: E) S) :
   TL qm P ops Q (⟨some d,.call { callee := .value (.func f),args := args.toArray,argTypes := ats },ty,pos,aft,g⟩ :: rest) n D E S := by
 cases qm
 · exact qgn (ι := Unit) (V := fun _ => v) (SX := fun _ => S) (F := fun _ => True) hg hd he ha (fun w hw => (hc w hw).mono fun u w' ⟨h1,h2⟩ => ⟨(),h1,trivial,h2⟩) fun _ _ => k
 · refine ⟨fun a w hf hw => ?_⟩
   have hargs : (args.toArray.map a.eval) = vs.toArray := by
     rw [List.map_toArray,hf.evs ha]
   have hrun : ∀ w,(execOp a.eval ⟨some d,.call { callee := .value (.func f),args := args.toArray,argTypes := ats },ty,pos,aft,g⟩).run P w = .ok (.enter f vs.toArray) w := by
     intro w
     simp only [execOp,resolve,Act.eval,Deferred.ofValue,hargs,Sem.run_bind,Sem.run_pure,Result.andThen_ok,invoke]
     simpa using he vs.toArray w
   show wpQuiet _ _ _ _ (_ :: _) _
   unfold wpQuiet
   rw [if_pos (z7 hg hf)]
   refine ⟨v,fun w1 hw1 => ?_,k.out _ w (hf.put hd v) hw⟩
   unfold Oper.quietAt
   rw [hrun w1]
   exact ⟨rfl,Calls.mono (hc w1 hw1) fun e w'' ⟨u,h1,h2,h3⟩ => ⟨by rw [h1,h2],h3⟩⟩
end
def BP (P : Program) (fn : Func) (R : Value → World → Prop) : Exit → Act → World → Prop := bodyPost P fn fun e w' => ∃ v,e = .returned v ∧ R v w'
theorem enter {f : FuncId} {fn : Func} {c : Code} {args : List Value} {R : Value → World → Prop} (E : Env) (n : Nat) (hf : P.funcs[f]? = some fn) (hb : fn.body = some c) (hn : fn.ntmps = n) (hs : Nat.ble args.length n = true)
   (hE : ∀ i v,look E i = some v → args[i]? = some v) (h : TC P c (BP P fn R) n [] E S) {w : World} (hw : S w) : Ret P f args.toArray w R := by
 have hs' : args.length ≤ n := by simpa using hs
 refine calls_of_wp hf hb (h.out _ _ ⟨?_,rfl,?_⟩ hw)
 · simp [hn]; omega
 · intro i v hi
   have h1 := hE i v hi
   rw [Array.getD_eq_getD_getElem?,Array.getElem?_append]
   obtain ⟨hlt,h2⟩ := List.getElem?_eq_some_iff.1 h1
   simp [hlt,h2]
theorem qte {f : FuncId} {fn : Func} {c : Code} {R : Value → World → Prop} (n : Nat) (hf : P.funcs[f]? = some fn) (hb : fn.body = some c) (hn : fn.ntmps = n)
 (h : TC P c (BP P fn R) n [] [] S) {w : World} (hw : S w) : Ret P f #[] w R := enter (args := []) [] n hf hb hn rfl (fun _ _ h => by cases h) h hw
theorem q9 {f : FuncId} {fn : Func} {c : Code} {a0 : Value} {R : Value → World → Prop} (n : Nat) (hf : P.funcs[f]? = some fn) (hb : fn.body = some c) (hn : fn.ntmps = n) (hs : Nat.ble 1 n = true)
 (h : TC P c (BP P fn R) n [] [(0, a0)] S) {w : World} (hw : S w) : Ret P f #[a0] w R := enter (args := [a0]) _ n hf hb hn hs (fun i v hi => by
   match i,hi with
   | 0,hi => exact hi
   | i + 1,hi => cases hi) h hw
theorem qv {f : FuncId} {fn : Func} {c : Code} {a0 a1 : Value} {R : Value → World → Prop} (n : Nat) (hf : P.funcs[f]? = some fn) (hb : fn.body = some c) (hn : fn.ntmps = n) (hs : Nat.ble 2 n = true)
 (h : TC P c (BP P fn R) n [] [(0, a0), (1, a1)] S) {w : World} (hw : S w) : Ret P f #[a0, a1] w R := enter (args := [a0, a1]) _ n hf hb hn hs (fun i v hi => by
   match i,hi with
   | 0,hi => exact hi
   | 1,hi => exact hi
   | i + 2,hi => cases hi) h hw
theorem j5 {f : FuncId} {fn : Func} {c : Code} {a0 a1 a2 : Value} {R : Value → World → Prop} (n : Nat) (hf : P.funcs[f]? = some fn) (hb : fn.body = some c) (hn : fn.ntmps = n) (hs : Nat.ble 3 n = true)
 (h : TC P c (BP P fn R) n [] [(0, a0), (1, a1), (2, a2)] S) {w : World} (hw : S w) : Ret P f #[a0, a1, a2] w R := enter (args := [a0, a1, a2]) _ n hf hb hn hs (fun i v hi => by
   match i,hi with
   | 0,hi => exact hi
   | 1,hi => exact hi
   | 2,hi => exact hi
   | i + 3,hi => cases hi) h hw
theorem qfd {f : FuncId} {fn : Func} {c : Code} {a0 a1 a2 a3 : Value} {R : Value → World → Prop} (n : Nat) (hf : P.funcs[f]? = some fn) (hb : fn.body = some c) (hn : fn.ntmps = n) (hs : Nat.ble 4 n = true)
 (h : TC P c (BP P fn R) n [] [(0, a0), (1, a1), (2, a2), (3, a3)] S) {w : World} (hw : S w) : Ret P f #[a0, a1, a2, a3] w R := enter (args := [a0, a1, a2, a3]) _ n hf hb hn hs (fun i v hi => by
   match i,hi with
   | 0,hi => exact hi
   | 1,hi => exact hi
   | 2,hi => exact hi
   | 3,hi => exact hi
   | i + 4,hi => cases hi) h hw
theorem ret0 {fn : Func} {R : Value → World → Prop} (hres : fn.results = #[]) (h : ∀ w, S w → R (.tuple #[]) w) : TE (BP P fn R) .normal n [] E S := ⟨fun a w ha hw =>
 bodyPost_end (results_none hres a.tmps P w) ha.defs ⟨_,rfl,h w hw⟩⟩
theorem ret1 {fn : Func} {t : Nat} {v : Value} {R : Value → World → Prop} (hres : fn.results = #[.tmp t]) (hv : look E t = some v) (h : ∀ w, S w → R v w) : TE (BP P fn R) .ret n [] E S := ⟨fun a w ha hw =>
 bodyPost_ret (by rw [results_tmp hres a.tmps P w,ha.get t v hv]) ha.defs ⟨_,rfl,h w hw⟩⟩
theorem ret2 {fn : Func} {t u : Nat} {v v2 : Value} {R : Value → World → Prop} (hres : fn.results = #[.tmp t, .tmp u]) (hv : look E t = some v) (hv2 : look E u = some v2) (h : ∀ w, S w → R (.tuple #[v, v2]) w) : TE (BP P fn R) .ret n [] E S := ⟨fun a w ha hw =>
 bodyPost_ret (by rw [results_tmp2 hres a.tmps P w,ha.get t v hv,ha.get u v2 hv2]) ha.defs ⟨_,rfl,h w hw⟩⟩
theorem ret3 {fn : Func} {t u s : Nat} {v v2 v3 : Value} {R : Value → World → Prop} (hres : fn.results = #[.tmp t, .tmp u, .tmp s]) (hv : look E t = some v) (hv2 : look E u = some v2) (hv3 : look E s = some v3) (h : ∀ w, S w → R (.tuple #[v, v2, v3]) w) : TE (BP P fn R) .ret n [] E S := ⟨fun a w ha hw =>
 bodyPost_ret (by rw [results_tmp3 hres a.tmps P w,ha.get t v hv,ha.get u v2 hv2,ha.get s v3 hv3]) ha.defs ⟨_,rfl,h w hw⟩⟩
def qb8 (op : BinOp) (k : IntKind) (a b : Int) : Option Value :=
 match op with
 | .add => some (.int k (k.wrap (a + b)))
 | .sub => some (.int k (k.wrap (a - b)))
 | .mul => some (.int k (k.wrap (a * b)))
 | .eql => some (.bool (a == b))
 | .neq => some (.bool (a != b))
 | .lss => some (.bool (decide (a < b)))
 | .leq => some (.bool (decide (a ≤ b)))
 | .gtr => some (.bool (decide (a > b)))
 | .geq => some (.bool (decide (a ≥ b)))
 | _ => none
def ql3 (op : BinOp) (a b : ByteArray) : Option Value :=
 match op with
 | .eql => some (.bool (a.toList == b.toList))
 | .neq => some (.bool (!(a.toList == b.toList)))
 | .lss => some (.bool (Op.bytesLess a.toList b.toList))
 | _ => none
def qat : IntKind → IntKind → Bool
 | .i8,.i8 | .i16,.i16 | .i32,.i32 | .i64,.i64 | .u8,.u8 | .u16,.u16 | .u32,.u32 | .u64,.u64 => true
 | _,_ => false
theorem qtf {k k' : IntKind} (h : qat k k' = true) : k = k' := by cases k <;> cases k' <;> first | rfl | cases h
def pv (E : Env) : Op → Option Value
 | .move x => ev E x
 | .assign x => ev E x
 | .pick c a b => match ev E c with
   | some (.bool true) => ev E a
   | some (.bool false) => ev E b
   | _ => none
 | .binOp op _ x y _ => match ev E x with
   | some (.int k a) => match ev E y with
     | some (.int k' b) => match qat k k' with
       | true => qb8 op k a b
       | false => none
     | _ => none
   | some (.string a) => match ev E y with
     | some (.string b) => ql3 op a b
     | _ => none
   | _ => none
 | .unOp .not _ x => match ev E x with
   | some (.bool b) => some (.bool (!b))
   | _ => none
 | .unOp .neg _ x => match ev E x with
   | some (.int k a) => some (.int k (k.wrap (0 - a)))
   | _ => none
 | .extract x i => match ev E x with
   | some (.tuple vs) => vs[i]?
   | _ => none
 | .nilCheck x => match ev E x with
   | some (.pointer (some a)) => some (.pointer (some a))
   | _ => none
 | .makeFunc fn f c => match evs E f.toList with
   | some fs => match evs E c.toList with
     | some cs => some (.func fn fs.toArray cs.toArray)
     | none => none
   | none => none
 | _ => none
theorem qb9 {w : World} {op : BinOp} {t : TypeId} {x y : Operand} {k k' : IntKind} {a b : Int} : (eqGuard op t x y (.int k a) (.int k' b)).run P w = .ok () w := by
 cases op <;> simp [eqGuard]
theorem ql4 {w : World} {op : BinOp} {t : TypeId} {x y : Operand} {a b : ByteArray} : (eqGuard op t x y (.string a) (.string b)).run P w = .ok () w := by
 cases op <;> simp [eqGuard]
theorem qak {op : Op} {ty : TypeId} {v : Value} (h : pv E op = some v) : qgl P n D E op ty S v := by
 intro a w ha hw d pos aft g
 refine ⟨w,?_,rfl⟩
 cases op with
 | move x => simp only [pv] at h; simp [execOp,ha.ev h]
 | assign x => simp only [pv] at h; simp [execOp,ha.ev h]
 | pick c x y =>
   simp only [pv] at h
   split at h
   · rename_i hc; simp [execOp,ha.ev hc,asBool,ha.ev h]
   · rename_i hc; simp [execOp,ha.ev hc,asBool,ha.ev h]
   · cases h
 | binOp op t x y t2 =>
   simp only [pv] at h
   split at h
   · rename_i k p hx
     split at h
     · rename_i k' q hy
       split at h
       · rename_i hk
         have := qtf hk
         subst this
         simp only [execOp,ha.ev hx,ha.ev hy,Sem.run_bind,qb9,Result.andThen_ok]
         cases op <;> simp only [qb8,Option.some.injEq] at h <;> first | (cases h; done) | (subst h; simp [binOp,Op.intArith,Op.intCmp])
       · cases h
     · cases h
   · rename_i p hx
     split at h
     · rename_i q hy
       simp only [execOp,ha.ev hx,ha.ev hy,Sem.run_bind,ql4,Result.andThen_ok]
       cases op <;> simp only [ql3,Option.some.injEq] at h <;> first | (cases h; done) | (subst h; simp [binOp,Op.stringOp])
     · cases h
   · cases h
 | unOp u t x =>
   cases u <;> simp only [pv] at h
   all_goals first | (cases h; done) | skip
   all_goals split at h
   all_goals first | (cases h; done) | skip
   all_goals (rename_i hx; simp only [Option.some.injEq] at h; subst h; simp [execOp,ha.ev hx,Op.unary,Op.intArith])
 | extract x i =>
   simp only [pv] at h
   split at h
   · rename_i vs hx
     simp [execOp,ha.ev hx,Instr.extract,h]
   · cases h
 | nilCheck x =>
   simp only [pv] at h
   split at h
   · rename_i p hx
     cases h
     simp [execOp,ha.ev hx]
   · cases h
 | makeFunc fn f c =>
   simp only [pv] at h
   split at h
   · rename_i fs hf
     split at h
     · rename_i cs hc
       cases h
       have e1 : f.map a.eval = fs.toArray := by rw [← ha.evs hf]; apply Array.ext'; simp
       have e2 : c.map a.eval = cs.toArray := by rw [← ha.evs hc]; apply Array.ext'; simp
       simp [execOp,Instr.makeFunc,e1,e2]
     · cases h
   · cases h
 | _ => cases h
theorem o_pv {qm : Bool} {ops : Array Oper} {rest : List Oper} {d : Nat} {op : Op} {ty : TypeId} {pos : String} {aft : Array Edge} {g : Option (Nat × Bool)} {v : Value} (hg : qi ops E g) (hd : Nat.blt d n = true) (hv : pv E op = some v)
 (k : TL qm P ops Q rest n D ((d,v) :: E) S) : TL qm P ops Q (⟨some d,op,ty,pos,aft,g⟩ :: rest) n D E S := o_rd hg hd (qak hv) k
theorem qf {qm : Bool} {ops : Array Oper} {rest : List Oper} {d : Nat} {t t2 : TypeId} {x y : Operand} {p q : Int} {ty : TypeId} {pos : String} {aft : Array Edge} {g : Option (Nat × Bool)} (hg : qi ops E g) (hd : Nat.blt d n = true)
   (hx : ev E x = some (.int .i64 p)) (hy : ev E y = some (.int .i64 q)) (hb : -9223372036854775808 ≤ p + q ∧ p + q ≤ 9223372036854775807)
   (k : TL qm P ops Q rest n D ((d,.int .i64 (p + q)) :: E) S) : TL qm P ops Q (⟨some d,.binOp .add t x y t2,ty,pos,aft,g⟩ :: rest) n D E S :=
 o_rd hg hd (v := .int .i64 (p + q)) (qak (by simp only [pv,hx,hy,qat,qb8]; rw [IntWalk.i64_in _ hb])) k
theorem vy {qm : Bool} {ops : Array Oper} {rest : List Oper} {d : Nat} {t t2 : TypeId} {x y : Operand} {p q : Int} {ty : TypeId} {pos : String} {aft : Array Edge} {g : Option (Nat × Bool)} (hg : qi ops E g) (hd : Nat.blt d n = true)
   (hx : ev E x = some (.int .i64 p)) (hy : ev E y = some (.int .i64 q)) (hb : -9223372036854775808 ≤ p - q ∧ p - q ≤ 9223372036854775807)
   (k : TL qm P ops Q rest n D ((d,.int .i64 (p - q)) :: E) S) : TL qm P ops Q (⟨some d,.binOp .sub t x y t2,ty,pos,aft,g⟩ :: rest) n D E S :=
 o_rd hg hd (v := .int .i64 (p - q)) (qak (by simp only [pv,hx,hy,qat,qb8]; rw [IntWalk.i64_in _ hb])) k
theorem zi {qm : Bool} {ops : Array Oper} {rest : List Oper} {d : Nat} {t t2 : TypeId} {x y : Operand} {p q : Int} {ty : TypeId} {pos : String} {aft : Array Edge} {g : Option (Nat × Bool)} (hg : qi ops E g) (hd : Nat.blt d n = true)
   (hx : ev E x = some (.int .i64 p)) (hy : ev E y = some (.int .i64 q)) (hb : -9223372036854775808 ≤ p * q ∧ p * q ≤ 9223372036854775807)
   (k : TL qm P ops Q rest n D ((d,.int .i64 (p * q)) :: E) S) : TL qm P ops Q (⟨some d,.binOp .mul t x y t2,ty,pos,aft,g⟩ :: rest) n D E S :=
 o_rd hg hd (v := .int .i64 (p * q)) (qak (by simp only [pv,hx,hy,qat,qb8]; rw [IntWalk.i64_in _ hb])) k
end
end Go.Tw
namespace Go.Tw
open Go Go.RowKit
def qbc (s : Nat) : List Oper → Option (List Oper × Oper × List Oper)
 | [] => none
 | o :: r => match o.op with
   | .pick (.tmp t) _ _ => match Nat.beq t s with
     | true => some ([],o,r)
     | false => match qbc s r with
       | some (G,p,r') => some (o :: G,p,r')
       | none => none
   | _ => match qbc s r with
     | some (G,p,r') => some (o :: G,p,r')
     | none => none
theorem qig {s : Nat} : ∀ {l G : List Oper} {p : Oper} {r : List Oper}, qbc s l = some (G, p, r) → l = G ++ p :: r
 | [],_,_,_,h => by cases h
 | o :: l, G, p, r, h => by
   have ih := @qig s l
   have other : (match qbc s l with | some (G,p,r') => some (o :: G,p,r') | none => none) = some (G,p,r) → o :: l = G ++ p :: r := by
     intro h
     split at h
     · rename_i G' p' r' h'
       cases h
       rw [ih h']; rfl
     · cases h
   simp only [qbc] at h
   split at h
   · split at h
     · cases h; rfl
     · exact other h
   · exact other h
def memN (t : Nat) : List Nat → Bool
 | [] => false
 | d :: r => match Nat.beq t d with
   | true => true
   | false => memN t r
theorem qih {t : Nat} : ∀ {l : List Nat}, memN t l = true → t ∈ l
 | [],h => by cases h
 | d :: r, h => by
   simp only [memN] at h
   split at h
   · rename_i hb; rw [Nat.eq_of_beq_eq_true hb]; exact List.mem_cons_self
   · exact List.mem_cons_of_mem _ (qih h)
def ql5 : Bool → Bool → Bool
 | true,true | false,false => true
 | _,_ => false
theorem ql6 {a b : Bool} (h : ql5 a b = true) : a = b := by cases a <;> cases b <;> first | rfl | cases h
def dead (ops : Array Oper) (s : Nat) (want : Bool) : List Nat → List Oper → Bool
 | _,[] => true
 | ds, o :: r => match o.guard with
   | none => false
   | some (j, wn) => match qar ops j with
     | none => false
     | some t => match (match Nat.beq t s with | true => ql5 wn want | false => memN t ds) with
       | false => false
       | true => match o.dst with
         | none => dead ops s want ds r
         | some d => match Nat.beq d s with
           | true => false
           | false => dead ops s want (d :: ds) r
def jv (s : Nat) : List Oper → Bool
 | [] => true
 | o :: r => match o.dst with
   | none => jv s r
   | some d => match Nat.blt s d with
     | true => jv s r
     | false => false
def qaa (s : Nat) : List (Nat × Value) → Bool
 | [] => true
 | (i, _) :: r => match Nat.ble i s with
   | true => qaa s r
   | false => false
theorem ql7 {s : Nat} : ∀ {E : Env}, qaa s E = true → ∀ {i : Nat} {v : Value}, look E i = some v → i ≤ s
 | [],_,_,_,h => by cases h
 | (j, u) :: r, hk, i, v, h => by
   simp only [qaa] at hk
   split at hk
   · rename_i hj
     by_cases hij : i = j
     · subst hij; simpa using hj
     · rw [qfc _ _ hij] at h; exact ql7 hk h
   · cases hk
def qdy (s : Nat) (a a' : Act) : Prop := a'.tmps.size = a.tmps.size ∧ a'.defers = a.defers ∧ ∀ t,t ≤ s → a'.tmps.getD t undef = a.tmps.getD t undef
theorem qdy.fits {s n : Nat} {D : List Deferred} {E : Env} {a a' : Act} (h : qdy s a a') (hf : Fits n D E a) (hk : qaa s E = true) : Fits n D E a' :=
 ⟨by rw [h.1,hf.size],by rw [h.2.1,hf.defs],fun i v hi => by rw [h.2.2 i (ql7 hk hi)]; exact hf.get i v hi⟩
section
variable {P : Program} {K K' : Act → World → Prop} {Q : Exit → Act → World → Prop} {n : Nat} {D : List Deferred} {E : Env} {S : World → Prop} {ops : Array Oper}
theorem qgo {o : Oper} {a : Act} {next next' : Act → World → Prop} {Q' : Exit → Act → World → Prop} {r : Result Next} (hn : ∀ a w, next a w → next' a w) (hQ : ∀ ch a w, Q (.panic ch) a w → Q' (.panic ch) a w) (ho : LetsOut Q → LetsOut Q')
   (h : o.upon P a next Q r) : o.upon P a next' Q' r := by
 cases r with
 | ok x w' =>
   cases x <;> simp only [Oper.upon] at h ⊢ <;> first
     | exact hn _ _ h
     | exact Calls.mono h (fun e w'' he => by cases e <;> first | exact hn _ _ he | exact hQ _ _ _ he | exact ho he)
     | exact Rows.mono h (fun _ _ he => hn _ _ he)
 | halt x w' => cases x <;> simp only [Oper.upon] at h ⊢ <;> exact hQ _ _ _ h
theorem qii {l2 : List Oper} : ∀ (l1 : List Oper) (a : Act) (w : World), wpList P ops (Exit.then (wpList P ops Q l2) Q) l1 a w → wpList P ops Q (l1 ++ l2) a w
 | [],a,w,h => h
 | o :: l1, a, w, h => by
   rw [List.cons_append]
   unfold wpList at h ⊢
   split at h
   · rename_i hw
     rw [if_pos hw]
     rcases h with h | ⟨h1,h2⟩
     · exact .inl (qgo (fun a w => qii l1 a w) (fun _ _ _ q => q) (fun q => q) h)
     · exact .inr ⟨h1,h2⟩
   · rename_i hw
     rw [if_neg hw]
     exact qii l1 _ _ h
theorem ql8 {s : Nat} : ∀ (G : List Oper) (a : Act) (w : World), jv s G = true → wpList P ops (Exit.then K Q) G a w → wpList P ops (Exit.then (fun a' w' => K a' w' ∧ ∀ t, t ≤ s → a'.tmps.getD t undef = a.tmps.getD t undef) Q) G a w
 | [],a,w,_,h => ⟨h,fun _ _ => rfl⟩
 | o :: G, a, w, hd, h => by
   have hput : ∀ v t,t ≤ s → (a.put o.dst v).tmps.getD t undef = a.tmps.getD t undef := by
     intro v t ht
     simp only [jv] at hd
     cases hdst : o.dst with
     | none => rfl
     | some d =>
       rw [hdst] at hd
       simp only at hd
       split at hd
       · rename_i hlt
         rw [qbr,if_neg (fun e => by have := e.1; simp at hlt; omega)]
       · cases hd
   have hd' : jv s G = true := by
     simp only [jv] at hd
     split at hd
     · exact hd
     · split at hd
       · exact hd
       · cases hd
   have step : ∀ (b : Act) w',(∀ t,t ≤ s → b.tmps.getD t undef = a.tmps.getD t undef) → wpList P ops (Exit.then K Q) G b w' → wpList P ops (Exit.then (fun a' w' => K a' w' ∧ ∀ t,t ≤ s → a'.tmps.getD t undef = a.tmps.getD t undef) Q) G b w' := by
     intro b w' hb hh
     have := ql8 G b w' hd' hh
     have e : (fun a' w' => K a' w' ∧ ∀ t,t ≤ s → a'.tmps.getD t undef = b.tmps.getD t undef) = (fun (a' : Act) (w' : World) => K a' w' ∧ ∀ t,t ≤ s → a'.tmps.getD t undef = a.tmps.getD t undef) := by
       funext a' w'
       exact propext ⟨fun ⟨h1,h2⟩ => ⟨h1,fun t ht => (h2 t ht).trans (hb t ht)⟩,fun ⟨h1,h2⟩ => ⟨h1,fun t ht => (h2 t ht).trans (hb t ht).symm⟩⟩
     rwa [e] at this
   unfold wpList at h ⊢
   split at h
   · rename_i hw
     rw [if_pos hw]
     rcases h with h | ⟨h1,h2⟩
     · refine .inl ?_
       unfold Oper.wp at *
       generalize (execOp a.eval o).run P w = r at *
       cases r with
       | ok x w' =>
         cases x <;> simp only [Oper.upon] at h ⊢
         case value v => exact step _ _ (hput v) h
         case skip => exact step _ _ (hput undef) h
         case defer d => exact step _ _ (fun t ht => by have := hput undef t ht; cases hh : o.dst <;> simpa [Act.put,hh] using this) h
         case enter f args => exact Calls.mono h (fun e w'' he => by cases e <;> first | exact step _ _ (hput _) he | exact he)
         case row r args => exact Rows.mono h (fun v w'' he => step _ _ (hput v) he)
       | halt x w' => cases x <;> simp only [Oper.upon] at h ⊢ <;> exact h
     · exact .inr ⟨h1,h2⟩
   · rename_i hw
     rw [if_neg hw]
     exact step _ _ (hput undef) h
theorem qij {s : Nat} {b : Bool} {l2 : List Oper} : ∀ (G : List Oper) (ds : List Nat) (a : Act) (w : World), dead ops s (!b) ds G = true → jv s G = true → a.tmps.getD s undef = .bool b → (∀ t, t ∈ ds → a.tmps.getD t undef = undef) →
   (∀ a',qdy s a a' → wpList P ops Q l2 a' w) → wpList P ops Q (G ++ l2) a w
 | [],ds,a,w,_,_,_,_,h => h a ⟨rfl,rfl,fun _ _ => rfl⟩
 | o :: G, ds, a, w, hD, hG, hs, hds, h => by
   simp only [dead] at hD
   split at hD
   · cases hD
   · rename_i j wn hg
     split at hD
     · cases hD
     · rename_i t ht
       split at hD
       · cases hD
       · rename_i hok
         have hskip : Region.wanted o (yielded ops a.tmps) = false := by
           have hval : ∀ v,a.tmps.getD t undef = v → (∀ c,v = .bool c → c = !wn) → Region.wanted o (yielded ops a.tmps) = false := by
             intro v hv hc
             exact ql1 (n := a.tmps.size) (D := a.defers) (E := [(t, v)]) (by rw [hg]; exact ⟨t, ht, v, qba _ _ _, hc⟩)
               ⟨rfl, rfl, fun i u hu => by
                 by_cases hi : i = t
                 · subst hi; rw [qba] at hu; rw [hv]; exact Option.some.inj hu
                 · rw [qfc _ _ hi] at hu; cases hu⟩
           split at hok
           · rename_i hts
             have := Nat.eq_of_beq_eq_true hts
             subst this
             have hwn := ql6 hok
             refine hval _ hs (fun c hc => ?_)
             cases hc
             rw [hwn]; simp
           · exact hval _ (hds t (qih hok)) (fun c hc => by cases hc)
         rw [List.cons_append]
         unfold wpList
         rw [if_neg (by rw [hskip]; exact Bool.false_ne_true)]
         simp only [jv] at hG
         cases hdst : o.dst with
         | none =>
           rw [hdst] at hD hG
           exact qij G ds a w hD hG hs hds h
         | some d =>
           rw [hdst] at hD hG
           simp only at hD hG
           split at hD
           · cases hD
           · rename_i hne
             split at hG
             · rename_i hlt
               have hlt' : s < d := by simpa using hlt
               refine qij G (d :: ds) _ w hD hG ?_ ?_ ?_
               · rw [qbr,if_neg (fun e => by have := e.1; omega)]; exact hs
               · intro t' ht'
                 rw [qbr]
                 split
                 · rfl
                 · rename_i hh
                   rcases List.mem_cons.1 ht' with e | e
                   · subst e
                     rw [Array.getD_eq_getD_getElem?,Array.getElem?_eq_none (by omega)]; rfl
                   · exact hds t' e
               · intro a' ha'
                 refine h a' ⟨by rw [ha'.1]; simp [Act.put],by rw [ha'.2.1]; rfl,fun t' ht' => ?_⟩
                 rw [ha'.2.2 t' ht',qbr,if_neg (fun e => by have := e.1; omega)]
             · cases hG
theorem qik (hK : ∀ a w, K a w → K' a w) : ∀ (G : List Oper) (a : Act) (w : World), wpList P ops (Exit.then K Q) G a w → wpList P ops (Exit.then K' Q) G a w
 | [],a,w,h => hK a w h
 | o :: G, a, w, h => by
   unfold wpList at h ⊢
   split at h
   · rename_i hw
     rw [if_pos hw]
     rcases h with h | ⟨h1,h2⟩
     · exact .inl (qgo (fun a w => qik hK G a w) (fun _ _ _ q => q) (fun q => q) h)
     · exact .inr ⟨h1,h2⟩
   · rename_i hw
     rw [if_neg hw]
     exact qik hK G _ _ h
theorem qil {C : World → Prop} {Kq : Act → Prop} {l2 : List Oper} : ∀ (l1 : List Oper) (a : Act), wpQuiet P ops C (wpQuiet P ops C Kq l2) l1 a → wpQuiet P ops C Kq (l1 ++ l2) a
 | [],a,h => h
 | o :: l1, a, h => by
   rw [List.cons_append]
   unfold wpQuiet at h ⊢
   split at h
   · rename_i hw
     rw [if_pos hw]
     exact Oper.quiet_mono (fun a => qil l1 a) h
   · rename_i hw
     rw [if_neg hw]
     exact qil l1 _ h
theorem qgp {C : World → Prop} {Kq Kq' : Act → Prop} (hK : ∀ a, Kq a → Kq' a) : ∀ (G : List Oper) (a : Act), wpQuiet P ops C Kq G a → wpQuiet P ops C Kq' G a
 | [],a,h => hK a h
 | o :: G, a, h => by
   unfold wpQuiet at h ⊢
   split at h
   · rename_i hw
     rw [if_pos hw]
     exact Oper.quiet_mono (fun a => qgp hK G a) h
   · rename_i hw
     rw [if_neg hw]
     exact qgp hK G _ h
theorem ql9 {C : World → Prop} {Kq : Act → Prop} {s : Nat} : ∀ (G : List Oper) (a : Act), jv s G = true → wpQuiet P ops C Kq G a → wpQuiet P ops C (fun a' => Kq a' ∧ ∀ t, t ≤ s → a'.tmps.getD t undef = a.tmps.getD t undef) G a
 | [],a,_,h => ⟨h,fun _ _ => rfl⟩
 | o :: G, a, hd, h => by
   have hput : ∀ v t,t ≤ s → (a.put o.dst v).tmps.getD t undef = a.tmps.getD t undef := by
     intro v t ht
     simp only [jv] at hd
     cases hdst : o.dst with
     | none => rfl
     | some d =>
       rw [hdst] at hd
       simp only at hd
       split at hd
       · rename_i hlt
         rw [qbr,if_neg (fun e => by have := e.1; simp at hlt; omega)]
       · cases hd
   have hd' : jv s G = true := by
     simp only [jv] at hd
     split at hd
     · exact hd
     · split at hd
       · exact hd
       · cases hd
   have step : ∀ (b : Act),(∀ t,t ≤ s → b.tmps.getD t undef = a.tmps.getD t undef) → wpQuiet P ops C Kq G b → wpQuiet P ops C (fun a' => Kq a' ∧ ∀ t,t ≤ s → a'.tmps.getD t undef = a.tmps.getD t undef) G b := by
     intro b hb hh
     exact qgp (fun a' ⟨h1,h2⟩ => ⟨h1,fun t ht => (h2 t ht).trans (hb t ht)⟩) G b (ql9 G b hd' hh)
   unfold wpQuiet at h ⊢
   split at h
   · rename_i hw
     rw [if_pos hw]
     obtain ⟨v,h1,h2⟩ := h
     exact ⟨v,h1,step _ (hput v) h2⟩
   · rename_i hw
     rw [if_neg hw]
     exact step _ (hput undef) h
theorem qim {C : World → Prop} {Kq : Act → Prop} {s : Nat} {b : Bool} {l2 : List Oper} : ∀ (G : List Oper) (ds : List Nat) (a : Act), dead ops s (!b) ds G = true → jv s G = true → a.tmps.getD s undef = .bool b → (∀ t, t ∈ ds → a.tmps.getD t undef = undef) →
   (∀ a',qdy s a a' → wpQuiet P ops C Kq l2 a') → wpQuiet P ops C Kq (G ++ l2) a
 | [],ds,a,_,_,_,_,h => h a ⟨rfl,rfl,fun _ _ => rfl⟩
 | o :: G, ds, a, hD, hG, hs, hds, h => by
   simp only [dead] at hD
   split at hD
   · cases hD
   · rename_i j wn hg
     split at hD
     · cases hD
     · rename_i t ht
       split at hD
       · cases hD
       · rename_i hok
         have hskip : Region.wanted o (yielded ops a.tmps) = false := by
           have hval : ∀ v,a.tmps.getD t undef = v → (∀ c,v = .bool c → c = !wn) → Region.wanted o (yielded ops a.tmps) = false := by
             intro v hv hc
             exact ql1 (n := a.tmps.size) (D := a.defers) (E := [(t, v)]) (by rw [hg]; exact ⟨t, ht, v, qba _ _ _, hc⟩)
               ⟨rfl, rfl, fun i u hu => by
                 by_cases hi : i = t
                 · subst hi; rw [qba] at hu; rw [hv]; exact Option.some.inj hu
                 · rw [qfc _ _ hi] at hu; cases hu⟩
           split at hok
           · rename_i hts
             have := Nat.eq_of_beq_eq_true hts
             subst this
             have hwn := ql6 hok
             refine hval _ hs (fun c hc => ?_)
             cases hc
             rw [hwn]; simp
           · exact hval _ (hds t (qih hok)) (fun c hc => by cases hc)
         rw [List.cons_append]
         unfold wpQuiet
         rw [if_neg (by rw [hskip]; exact Bool.false_ne_true)]
         simp only [jv] at hG
         cases hdst : o.dst with
         | none =>
           rw [hdst] at hD hG
           exact qim G ds a hD hG hs hds h
         | some d =>
           rw [hdst] at hD hG
           simp only at hD hG
           split at hD
           · cases hD
           · rename_i hne
             split at hG
             · rename_i hlt
               have hlt' : s < d := by simpa using hlt
               refine qim G (d :: ds) _ hD hG ?_ ?_ ?_
               · rw [qbr,if_neg (fun e => by have := e.1; omega)]; exact hs
               · intro t' ht'
                 rw [qbr]
                 split
                 · rfl
                 · rename_i hh
                   rcases List.mem_cons.1 ht' with e | e
                   · subst e
                     rw [Array.getD_eq_getD_getElem?,Array.getElem?_eq_none (by omega)]; rfl
                   · exact hds t' e
               · intro a' ha'
                 refine h a' ⟨by rw [ha'.1]; simp [Act.put],by rw [ha'.2.1]; rfl,fun t' ht' => ?_⟩
                 rw [ha'.2.2 t' ht',qbr,if_neg (fun e => by have := e.1; omega)]
             · cases hG
structure qbs (x : Operand) (c : Bool) (S : World → Prop) (n : Nat) (D : List Deferred) (a : Act) (w : World) : Prop where
 world : S w
 val : a.eval x = .bool c
 size : a.tmps.size = n
 defs : a.defers = D
theorem qa {x : Operand} {c : Bool} (hx : ev E x = some (.bool c)) : TE (Exit.then (qbs x c S n D) Q) .normal n D E S := ⟨fun a w ha hw => ⟨hw,ha.ev hx,ha.size,ha.defs⟩⟩
theorem qtg {S' : World → Prop} {x : Operand} {c : Bool} (hx : ev E x = some (.bool c)) (hs : ∀ w,S w → S' w) : TE (Exit.then (qbs x c S' n D) Q) .normal n D E S := ⟨fun a w ha hw => ⟨hs w hw,ha.ev hx,ha.size,ha.defs⟩⟩
section
variable {rest G rest' : List Oper} {s d : Nat} {c x : Operand} {b cc : Bool} {ty ty' : TypeId} {pos pos' : String} {aft aft' : Array Edge} {g g' : Option (Nat × Bool)}
theorem qma {qm : Bool} {bad : Bool} {oa ob : Operand} (hpick : ∀ a : Act, (if bad then a.eval oa else a.eval ob) = .bool bad ∧ (if bad then a.eval ob else a.eval oa) = a.eval x) {r : Bool} (hr1 : b = bad → r = bad) (hr2 : b = !bad → r = cc)
   (hg : qi ops E g) (hs : Nat.blt s n = true) (hd : Nat.blt d n = true) (hc : ev E c = some (.bool b)) (hsplit : qbc s rest = some (G,⟨some d,.pick (.tmp s) oa ob,ty',pos',aft',g⟩,rest'))
   (hdead : dead ops s (!bad) [] G = true) (hgt : jv s G = true) (hle : qaa s E = true) (hg2 : qi ops ((s,.bool b) :: E) g)
   (h1 : b = !bad → TL qm P ops (Exit.then (qbs x cc S n D) Q) G n D ((s,.bool b) :: E) S)
   (k : TL qm P ops Q rest' n D ((d,.bool r) :: (s,.bool b) :: E) S) :
   TL qm P ops Q (⟨some s,.move c,ty,pos,aft,g⟩ :: rest) n D E S := by
 refine o_rd hg hs (qak (v := .bool b) (by simpa [pv] using hc)) ⟨?_⟩
 intro a w ha hw
 cases qm
 · show wpList _ _ _ _ _ _
   rw [qig hsplit]
   have hle' : qaa s ((s,.bool b) :: E) = true := by
     have hss : Nat.ble s s = true := by simp
     simp only [qaa,hss]; exact hle
   -- the pick,in a frame where slot s still stands
   have pick : ∀ (a' : Act) (w' : World),Fits n D ((s,.bool b) :: E) a' → (b = !bad → a'.eval x = .bool cc) → S w' → wpList P ops Q (⟨some d,.pick (.tmp s) oa ob,ty',pos',aft',g⟩ :: rest') a' w' := by
     intro a' w' hf hx hS
     have hsv : a'.eval (.tmp s) = .bool b := hf.ev (x := .tmp s) (qba _ _ _)
     have hval : (if b then a'.eval oa else a'.eval ob) = .bool r := by
       have hp := hpick a'
       by_cases hb : b = bad
       · rw [hr1 hb,hb]; exact hp.1
       · have hb' : b = !bad := by cases b <;> cases bad <;> simp_all
         rw [hr2 hb',← hx hb',← hp.2,hb']
         cases bad <;> simp
     refine qbb (z7 hg2 hf) ?_
     unfold Oper.wp
     have hrun : (execOp a'.eval ⟨some d,.pick (.tmp s) oa ob,ty',pos',aft',g⟩).run P w' = .ok (.value (.bool r)) w' := by
       simp [execOp,hsv,asBool,hval]
     rw [hrun]
     exact k.out _ _ (hf.put hd _) hS
   by_cases hb : b = bad
   · subst hb
     refine qij G [] a w (by simpa using hdead) hgt (ha.get s _ (qba _ _ _)) (fun t ht => by cases ht) (fun a' ha' => ?_);exact pick a' w (ha'.fits ha hle') (fun e => by cases b <;> cases e) hw
   · have hb' : b = !bad := by cases b <;> cases bad <;> simp_all
     refine qii G a w ?_
     have h2 := ql8 G a w hgt ((h1 hb').out a w ha hw)
     -- what the right side's way brings
     have conv : ∀ (a' : Act) (w' : World),(qbs x cc S n D a' w' ∧ ∀ t,t ≤ s → a'.tmps.getD t undef = a.tmps.getD t undef) → wpList P ops Q (⟨some d,.pick (.tmp s) oa ob,ty',pos',aft',g⟩ :: rest') a' w' := by
       rintro a' w' ⟨⟨hC,hx,hsz,hdf⟩,hlow⟩
       have hag : qdy s a a' := ⟨by rw [hsz,ha.size],by rw [hdf,ha.defs],hlow⟩
       exact pick a' w' (hag.fits ha hle') (fun _ => hx) hC
     exact qik conv G a w h2
 · skip
   rw [qig hsplit]
   have hle' : qaa s ((s,.bool b) :: E) = true := by
     have hss : Nat.ble s s = true := by simp
     simp only [qaa,hss]; exact hle
   have pick : ∀ (a' : Act),Fits n D ((s,.bool b) :: E) a' → (b = !bad → a'.eval x = .bool cc) → wpQuiet P ops S (fun a' => ∀ w',S w' → Q .normal a' w') (⟨some d,.pick (.tmp s) oa ob,ty',pos',aft',g⟩ :: rest') a' := by
     intro a' hf hx
     have hsv : a'.eval (.tmp s) = .bool b := hf.ev (x := .tmp s) (qba _ _ _)
     have hval : (if b then a'.eval oa else a'.eval ob) = .bool r := by
       have hp := hpick a'
       by_cases hb : b = bad
       · rw [hr1 hb,hb]; exact hp.1
       · have hb' : b = !bad := by cases b <;> cases bad <;> simp_all
         rw [hr2 hb',← hx hb',← hp.2,hb']
         cases bad <;> simp
     unfold wpQuiet
     rw [if_pos (z7 hg2 hf)]
     refine ⟨.bool r,fun w1 hw1 => ?_,k.out _ w (hf.put hd _) hw⟩
     have hrun : (execOp a'.eval ⟨some d,.pick (.tmp s) oa ob,ty',pos',aft',g⟩).run P w1 = .ok (.value (.bool r)) w1 := by
       simp [execOp,hsv,asBool,hval]
     unfold Oper.quietAt
     rw [hrun]
     exact ⟨rfl,rfl⟩
   show wpQuiet _ _ _ _ _ _
   by_cases hb : b = bad
   · subst hb
     refine qim G [] a (by simpa using hdead) hgt (ha.get s _ (qba _ _ _)) (fun t ht => by cases ht) (fun a' ha' => ?_);exact pick a' (ha'.fits ha hle') (fun e => by cases b <;> cases e)
   · have hb' : b = !bad := by cases b <;> cases bad <;> simp_all
     refine qil G a ?_
     have h2 := ql9 G a hgt ((h1 hb').out a w ha hw)
     refine qgp ?_ G a h2;rintro a' ⟨hJ,hlow⟩
     have hJ' : qbs x cc S n D a' w := hJ w hw
     have hag : qdy s a a' := ⟨by rw [hJ'.size,ha.size],by rw [hJ'.defs,ha.defs],hlow⟩
     exact pick a' (hag.fits ha hle') (fun _ => hJ'.val)
variable {d1 : Option Tmp} {op1 : Op} {ty1 : TypeId} {pos1 : String} {aft1 : Array Edge} {j : Nat}
theorem o_or {qm : Bool} (hg : qi ops E g) (hg2 : qi ops ((s, .bool b) :: E) g) (hs : Nat.blt s n = true) (hj : qar ops j = some s) (hd : Nat.blt d n = true) (hc : ev E c = some (.bool b)) (hsplit : qbc s (⟨d1, op1, ty1, pos1, aft1, some (j, false)⟩ :: rest) = some (G, ⟨some d, .pick (.tmp s) (.const (.bool true)) x, ty', pos', aft', g⟩, rest'))
   (hdead : dead ops s false [] G = true) (hgt : jv s G = true) (hle : qaa s E = true)
   (h1 : b = false → TL qm P ops (Exit.then (qbs x cc S n D) Q) G n D ((s,.bool b) :: E) S)
   (k : TL qm P ops Q rest' n D ((d,.bool (b || cc)) :: (s,.bool b) :: E) S) :
   TL qm P ops Q (⟨some s,.move c,ty,pos,aft,g⟩ :: ⟨d1,op1,ty1,pos1,aft1,some (j,false)⟩ :: rest) n D E S :=
 qma (bad := true) (fun _ => ⟨rfl,rfl⟩) (fun h => by rw [h]; rfl) (fun h => by rw [h]; rfl) hg hs hd hc hsplit hdead hgt hle hg2 h1 k
theorem qca {qm : Bool} (hg : qi ops E g) (hg2 : qi ops ((s, .bool b) :: E) g) (hs : Nat.blt s n = true) (hj : qar ops j = some s) (hd : Nat.blt d n = true) (hc : ev E c = some (.bool b)) (hsplit : qbc s (⟨d1, op1, ty1, pos1, aft1, some (j, true)⟩ :: rest) = some (G, ⟨some d, .pick (.tmp s) x (.const (.bool false)), ty', pos', aft', g⟩, rest'))
   (hdead : dead ops s true [] G = true) (hgt : jv s G = true) (hle : qaa s E = true)
   (h1 : b = true → TL qm P ops (Exit.then (qbs x cc S n D) Q) G n D ((s,.bool b) :: E) S)
   (k : TL qm P ops Q rest' n D ((d,.bool (b && cc)) :: (s,.bool b) :: E) S) :
   TL qm P ops Q (⟨some s,.move c,ty,pos,aft,g⟩ :: ⟨d1,op1,ty1,pos1,aft1,some (j,true)⟩ :: rest) n D E S :=
 qma (bad := false) (fun _ => ⟨rfl,rfl⟩) (fun h => by rw [h]; rfl) (fun h => by rw [h]; rfl) hg hs hd hc hsplit hdead hgt hle hg2 h1 k
theorem oY {qm : Bool} (h1 : b = true → TL qm P ops (Exit.then (qbs x cc S n D) Q) G n D ((s,.bool b) :: E) S) (k : TL qm P ops Q rest' n D ((d,.bool (b && cc)) :: (s,.bool b) :: E) S) (hc : ev E c = some (.bool b) := by exact rfl) (hsplit : qbc s (⟨d1,op1,ty1,pos1,aft1,some (j,true)⟩ :: rest) = some (G,⟨some d,.pick (.tmp s) x (.const (.bool false)),ty',pos',aft',g⟩,rest') := by exact rfl) (hg : qi ops E g := by exact trivial) (hg2 : qi ops ((s,.bool b) :: E) g := by exact trivial) (hs : Nat.blt s n = true := by exact rfl) (hj : qar ops j = some s := by exact rfl) (hd : Nat.blt d n = true := by exact rfl) (hdead : dead ops s true [] G = true := by exact rfl) (hgt : jv s G = true := by exact rfl) (hle : qaa s E = true := by exact rfl) : TL qm P ops Q (⟨some s,.move c,ty,pos,aft,g⟩ :: ⟨d1,op1,ty1,pos1,aft1,some (j,true)⟩ :: rest) n D E S := qca hg hg2 hs hj hd hc hsplit hdead hgt hle h1 k
theorem oZ {qm : Bool} (h1 : b = false → TL qm P ops (Exit.then (qbs x cc S n D) Q) G n D ((s,.bool b) :: E) S) (k : TL qm P ops Q rest' n D ((d,.bool (b || cc)) :: (s,.bool b) :: E) S) (hc : ev E c = some (.bool b) := by exact rfl) (hsplit : qbc s (⟨d1,op1,ty1,pos1,aft1,some (j,false)⟩ :: rest) = some (G,⟨some d,.pick (.tmp s) (.const (.bool true)) x,ty',pos',aft',g⟩,rest') := by exact rfl) (hg : qi ops E g := by exact trivial) (hg2 : qi ops ((s,.bool b) :: E) g := by exact trivial) (hs : Nat.blt s n = true := by exact rfl) (hj : qar ops j = some s := by exact rfl) (hd : Nat.blt d n = true := by exact rfl) (hdead : dead ops s false [] G = true := by exact rfl) (hgt : jv s G = true := by exact rfl) (hle : qaa s E = true := by exact rfl) : TL qm P ops Q (⟨some s,.move c,ty,pos,aft,g⟩ :: ⟨d1,op1,ty1,pos1,aft1,some (j,false)⟩ :: rest) n D E S := o_or hg hg2 hs hj hd hc hsplit hdead hgt hle h1 k
end
end
end Go.Tw
namespace Go.Tw
open Go Go.RowKit
abbrev Hp := Nat → Option Obj
def Hp.Le (I I' : Hp) : Prop := ∀ b o,I b = some o → I' b = some o
theorem Hp.Le.refl (I : Hp) : I.Le I := fun _ _ h => h
theorem Hp.Le.trans {I I' I'' : Hp} (h : I.Le I') (h' : I'.Le I'') : I.Le I'' := fun b o e => h' b o (h b o e)
def Hp.cell? (I : Hp) (a : Addr) : Option Value := match I a.block with
 | some (.cells c _ _) => if a.spot.isSome then none else c[a.off]?
 | _ => none
theorem Hp.Le.cell {I I' : Hp} (h : I.Le I') {a : Addr} {v : Value} (hc : I.cell? a = some v) : I'.cell? a = some v := by
 unfold Hp.cell? at *
 split at hc
 · rename_i c t f hb; rw [h _ _ hb]; exact hc
 · cases hc
inductive Item where
 | box (b : Nat) (o : Obj)
 | row (v : Value) (T : TypeId) (size n : Nat) (xs : List Value)
def Item.key : Item → Option Nat
 | .box b _ => some b
 | .row v _ _ _ _ => v.ownBlock
def Item.holds (w : World) : Item → Prop
 | .box b o => w.heap[b]? = some o
 | .row v T size n xs => w.ownsRow 0 T size v n xs
theorem Item.holds_lt {w : World} {it : Item} (h : it.holds w) {b : Nat} (hb : it.key = some b) : b < w.heap.size := by
 cases it with
 | box b' o => cases hb; exact (Array.getElem?_eq_some_iff.1 h).1
 | row v T s n xs => exact (World.ownsRow.lt h b hb).2
structure St (w0 : World) (X : List Nat) (I : Hp) (B : List Item) (w : World) : Prop where
 os : w.os = w0.os
 tape : w.tape = w0.tape
 output : w.output = w0.output
 size : w0.heap.size ≤ w.heap.size
 keep : ∀ k,k < w0.heap.size → k ∉ X → w.heap[k]? = w0.heap[k]?
 imm : ∀ b o,I b = some o → w.heap[b]? = some o
 own : ∀ it,it ∈ B → it.holds w
 dis : ∀ it,it ∈ B → ∀ b,it.key = some b → I b = none ∧ (w0.heap.size ≤ b ∨ b ∈ X)
 apart : B.Pairwise fun x y => ∀ b,x.key = some b → y.key ≠ some b
def Hp.In (I : Hp) (w : World) : Prop := ∀ b o,I b = some o → w.heap[b]? = some o
theorem Hp.In.cell {I : Hp} {w : World} (h : I.In w) {a : Addr} {v : Value} (hc : I.cell? a = some v) : w.cell? a = some v := by
 unfold Hp.cell? at hc
 unfold World.cell?
 split at hc
 · rename_i c t f hb; rw [h _ _ hb]; exact hc
 · cases hc
def World.hp (w : World) : Hp := fun b => w.heap[b]?
theorem qth (w : World) : (World.hp w).In w := fun _ _ h => h
theorem qti (w : World) (a : Addr) : (World.hp w).cell? a = w.cell? a := rfl
theorem St.start {I : Hp} {w : World} (h : I.In w) : St w [] I [] w :=
 ⟨rfl,rfl,rfl,Nat.le_refl _,fun _ _ _ => rfl,h,(fun _ h => (by cases h)),(fun _ h => (by cases h)),List.Pairwise.nil⟩
theorem St.below {w0 w : World} {I : Hp} {B : List Item} (h : St w0 [] I B w) : Below w0.heap.size w0 w :=
 ⟨h.os,h.tape,h.output,h.size,fun k hk => h.keep k hk (by simp)⟩
theorem St.drop {w0 w : World} {X : List Nat} {I : Hp} {B B' : List Item} (h : St w0 X I B w) (hs : B'.Sublist B) : St w0 X I B' w :=
 ⟨h.os,h.tape,h.output,h.size,h.keep,h.imm,fun it hi => h.own it (hs.subset hi),fun it hi => h.dis it (hs.subset hi),h.apart.sublist hs⟩
theorem St.fewer {w0 w : World} {X : List Nat} {I I' : Hp} {B : List Item} (h : St w0 X I' B w) (hl : I.Le I') : St w0 X I B w := by
 refine ⟨h.os,h.tape,h.output,h.size,h.keep,fun b o e => h.imm b o (hl b o e),h.own,fun it hi b hb => ⟨?_,(h.dis it hi b hb).2⟩,h.apart⟩
 have hn := (h.dis it hi b hb).1
 cases hI : I b with
 | none => rfl
 | some o => have := hl b o hI; rw [hn] at this; cases this
structure But (b : Option Nat) (w w' : World) : Prop where
 os : w'.os = w.os
 tape : w'.tape = w.tape
 output : w'.output = w.output
 size : w.heap.size ≤ w'.heap.size
 keep : ∀ k,k < w.heap.size → some k ≠ b → w'.heap[k]? = w.heap[k]?
theorem But.refl (b : Option Nat) (w : World) : But b w w := ⟨rfl,rfl,rfl,Nat.le_refl _,fun _ _ _ => rfl⟩
theorem But.trans {b : Option Nat} {w w' w'' : World} (h : But b w w') (h' : But b w' w'') : But b w w'' :=
 ⟨h'.os.trans h.os,h'.tape.trans h.tape,h'.output.trans h.output,Nat.le_trans h.size h'.size,fun k hk hb => (h'.keep k (Nat.lt_of_lt_of_le hk h.size) hb).trans (h.keep k hk hb)⟩
theorem But.of_grown {b : Option Nat} {w w' : World} (h : w.grownBy w' b) : But b w w' := ⟨h.os,h.tape,h.output,h.size,h.block⟩
theorem But.of_below {w w' : World} (h : Below w.heap.size w w') : But none w w' := ⟨h.os,h.tape,h.output,h.size,fun k hk _ => h.block k hk⟩
theorem But.alloc (w : World) (o : Obj) : But none w (w.alloc o) := ⟨rfl,rfl,rfl,by simp,fun k hk _ => Below.heap_alloc w o k hk⟩
theorem Item.holds_but {w w' : World} {b : Option Nat} (h : But b w w') {it : Item} (hi : it.holds w) (hne : ∀ k,it.key = some k → some k ≠ b) : it.holds w' := by
 cases it with
 | box k o =>
   have hlt := (Array.getElem?_eq_some_iff.1 hi).1
   exact (h.keep k hlt (hne k rfl)).trans hi
 | row v T s n xs =>
   refine World.ownsRow.kept hi ⟨h.os,h.tape,h.output,h.size,h.keep⟩ ?_
   cases hv : v.ownBlock with
   | none => exact .inl rfl
   | some k => exact .inr (hne k hv)
inductive Put : List Item → Item → List Item → Item → Prop
 | here {it it' : Item} {B : List Item} : Put (it :: B) it (it' :: B) it'
 | there {x it it' : Item} {B B' : List Item} : Put B it B' it' → Put (x :: B) it (x :: B') it'
theorem Put.mem {B B' : List Item} {it it' : Item} (h : Put B it B' it') : it ∈ B := by
 induction h with
 | here => exact List.mem_cons_self
 | there _ ih => exact List.mem_cons_of_mem _ ih
theorem Put.mem' {B B' : List Item} {it it' : Item} (h : Put B it B' it') : ∀ x,x ∈ B' → x = it' ∨ (x ∈ B ∧ (B.Pairwise (fun x y => ∀ b,x.key = some b → y.key ≠ some b) → ∀ b,it.key = some b → x.key ≠ some b)) := by
 induction h with
 | @here it it' B =>
   intro x hx
   rcases List.mem_cons.1 hx with rfl | hx
   · exact .inl rfl
   · exact .inr ⟨List.mem_cons_of_mem _ hx,fun hp b hb => (List.pairwise_cons.1 hp).1 x hx b hb⟩
 | @there y it it' B B' hput ih =>
   intro x hx
   rcases List.mem_cons.1 hx with rfl | hx
   · exact .inr ⟨List.mem_cons_self,fun hp b hb => fun hxb => (List.pairwise_cons.1 hp).1 it hput.mem b hxb hb⟩
   · rcases ih x hx with h | ⟨h1, h2⟩
     · exact .inl h
     · exact .inr ⟨List.mem_cons_of_mem _ h1,fun hp => h2 (List.pairwise_cons.1 hp).2⟩
theorem Put.apart {B B' : List Item} {it it' : Item} (h : Put B it B' it') (hp : B.Pairwise (fun x y => ∀ b, x.key = some b → y.key ≠ some b))
   (hk : ∀ b,it'.key = some b → it.key = some b ∨ ∀ x,x ∈ B → x.key ≠ some b) : B'.Pairwise (fun x y => ∀ b,x.key = some b → y.key ≠ some b) := by
 induction h with
 | @here it it' B =>
   refine List.pairwise_cons.2 ⟨fun y hy b hb => ?_,(List.pairwise_cons.1 hp).2⟩
   rcases hk b hb with h1 | h1
   · exact (List.pairwise_cons.1 hp).1 y hy b h1
   · exact h1 y (List.mem_cons_of_mem _ hy)
 | @there x it it' B B' hput ih =>
   obtain ⟨h1,h2⟩ := List.pairwise_cons.1 hp
   refine List.pairwise_cons.2 ⟨fun y hy b hb => ?_,ih h2 (fun b hb => (hk b hb).imp id fun h y hy => h y (List.mem_cons_of_mem _ hy))⟩
   rcases hput.mem' y hy with rfl | ⟨hy',_⟩
   · intro hyb
     rcases hk b hyb with h3 | h3
     · exact h1 it hput.mem b hb h3
     · exact h3 x List.mem_cons_self hb
   · exact h1 y hy' b hb
theorem St.turn {w0 w w' : World} {X : List Nat} {I : Hp} {B B' : List Item} {it it' : Item} (h : St w0 X I B w) (hput : Put B it B' it') (hb : But it.key w w') (hi : it'.holds w')
   (hk : ∀ b,it'.key = some b → it.key = some b ∨ w.heap.size ≤ b) : St w0 X I B' w' := by
 have hd := h.dis it hput.mem
 refine ⟨hb.os.trans h.os,hb.tape.trans h.tape,hb.output.trans h.output,Nat.le_trans h.size hb.size,fun k hlt hX => ?_,fun b o e => ?_,fun x hx => ?_,fun x hx b hxb => ?_,?_⟩
 · rw [hb.keep k (Nat.lt_of_lt_of_le hlt h.size) (fun e => ?_)]
   · exact h.keep k hlt hX
   · rcases (hd k e.symm).2 with h1 | h1
     · omega
     · exact hX h1
 · have hw := h.imm b o e
   have hlt := (Array.getElem?_eq_some_iff.1 hw).1
   rw [hb.keep b hlt (fun e' => by rw [(hd b e'.symm).1] at e; cases e)]
   exact hw
 · rcases hput.mem' x hx with rfl | ⟨hx', hne⟩
   · exact hi
   · exact Item.holds_but hb (h.own x hx') (fun k hk e => hne h.apart k e.symm hk)
 · rcases hput.mem' x hx with rfl | ⟨hx', _⟩
   · rcases hk b hxb with h1 | h1
     · exact hd b h1
     · refine ⟨?_, .inl (Nat.le_trans h.size h1)⟩
       cases hI : I b with
       | none => rfl
       | some o => have := (Array.getElem?_eq_some_iff.1 (h.imm b o hI)).1; omega
   · exact h.dis x hx' b hxb
 · refine hput.apart h.apart (fun b hb' => (hk b hb').imp id fun hge x hx hxb => ?_)
   have := Item.holds_lt (h.own x hx) hxb
   omega
theorem St.new {w0 w w' : World} {X : List Nat} {I : Hp} {B : List Item} {it : Item} (h : St w0 X I B w) (hb : But none w w') (hi : it.holds w') (hk : ∀ b,it.key = some b → w.heap.size ≤ b) : St w0 X I (it :: B) w' := by
 have hIlt : ∀ b o,I b = some o → b < w.heap.size := fun b o e => (Array.getElem?_eq_some_iff.1 (h.imm b o e)).1
 refine ⟨hb.os.trans h.os,hb.tape.trans h.tape,hb.output.trans h.output,Nat.le_trans h.size hb.size,fun k hlt hX => ?_,fun b o e => ?_,fun x hx => ?_,fun x hx b hxb => ?_,?_⟩
 · rw [hb.keep k (Nat.lt_of_lt_of_le hlt h.size) (fun e => (by cases e))]
   exact h.keep k hlt hX
 · rw [hb.keep b (hIlt b o e) (fun e => (by cases e))]
   exact h.imm b o e
 · rcases List.mem_cons.1 hx with rfl | hx
   · exact hi
   · exact Item.holds_but hb (h.own x hx) (fun k hk e => (by cases e))
 · rcases List.mem_cons.1 hx with rfl | hx
   · have hge := hk b hxb
     refine ⟨?_,.inl (Nat.le_trans h.size hge)⟩
     cases hI : I b with
     | none => rfl
     | some o => have := hIlt b o hI; omega
   · exact h.dis x hx b hxb
 · refine List.pairwise_cons.2 ⟨fun y hy b hb' hyb => ?_, h.apart⟩
   have := Item.holds_lt (h.own y hy) hyb
   have := hk b hb'
   omega
theorem St.still {w0 w w' : World} {X : List Nat} {I : Hp} {B : List Item} (h : St w0 X I B w) (hb : But none w w') : St w0 X I B w' := by
 have hIlt : ∀ b o,I b = some o → b < w.heap.size := fun b o e => (Array.getElem?_eq_some_iff.1 (h.imm b o e)).1
 refine ⟨hb.os.trans h.os,hb.tape.trans h.tape,hb.output.trans h.output,Nat.le_trans h.size hb.size,fun k hlt hX => ?_,fun b o e => ?_,fun x hx => ?_,h.dis,h.apart⟩
 · rw [hb.keep k (Nat.lt_of_lt_of_le hlt h.size) (fun e => (by cases e))]
   exact h.keep k hlt hX
 · rw [hb.keep b (hIlt b o e) (fun e => (by cases e))]
   exact h.imm b o e
 · exact Item.holds_but hb (h.own x hx) (fun k hk e => (by cases e))
structure Ext (N : Nat) (I I' : Hp) : Prop where
 le : I.Le I'
 new : ∀ b,I b = none → I' b ≠ none → N ≤ b
theorem Ext.refl (N : Nat) (I : Hp) : Ext N I I := ⟨Hp.Le.refl I,fun b h h' => absurd h h'⟩
theorem Ext.trans {N N' : Nat} {I I' I'' : Hp} (h : Ext N I I') (h' : Ext N' I' I'') (hN : N ≤ N') : Ext N I I'' :=
 ⟨h.le.trans h'.le, fun b h1 h2 => by
   by_cases h3 : I' b = none
   · exact Nat.le_trans hN (h'.new b h3 h2)
   · exact h.new b h1 h3⟩
theorem St.seal_ {w0 w : World} {X : List Nat} {I : Hp} {B : List Item} {b : Nat} {o : Obj} (h : St w0 X I (.box b o :: B) w) : St w0 X (fun k => if k = b then some o else I k) B w := by
 obtain ⟨hb,hp⟩ := List.pairwise_cons.1 h.apart
 refine ⟨h.os,h.tape,h.output,h.size,h.keep,fun k o' e => ?_,fun it hi => h.own it (List.mem_cons_of_mem _ hi),fun it hi k hk => ⟨?_,(h.dis it (List.mem_cons_of_mem _ hi) k hk).2⟩,hp⟩
 · by_cases hkb : k = b
   · subst hkb
     rw [if_pos rfl] at e
     cases e
     exact h.own _ List.mem_cons_self
   · rw [if_neg hkb] at e
     exact h.imm k o' e
 · rw [if_neg (fun e => hb it hi b rfl (by rw [← e]; exact hk))]
   exact (h.dis it (List.mem_cons_of_mem _ hi) k hk).1
def jw (P : Program) (f : FuncId) (vs : List Value) (v : Value) : Prop := ∀ w,Ret P f vs.toArray w fun u w' => u = v ∧ w' = w
def je : List Item → List Nat
 | [] => []
 | it :: r => match it.key with
   | some b => b :: je r
   | none => je r
theorem qfe {b : Nat} : ∀ {B : List Item}, b ∈ je B ↔ ∃ it, it ∈ B ∧ it.key = some b
 | [] => by simp [je]
 | it :: r => by
   have ih := @qfe b r
   simp only [je]
   cases hk : it.key with
   | none =>
     simp only [ih]
     exact ⟨fun ⟨x, h1, h2⟩ => ⟨x, List.mem_cons_of_mem _ h1, h2⟩, fun ⟨x, h1, h2⟩ => by
       rcases List.mem_cons.1 h1 with rfl | h1
       · rw [hk] at h2; cases h2
       · exact ⟨x,h1,h2⟩⟩
   | some c =>
     simp only [List.mem_cons,ih]
     constructor
     · rintro (rfl | ⟨x, h1, h2⟩)
       · exact ⟨it,.inl rfl,hk⟩
       · exact ⟨x,.inr h1,h2⟩
     · rintro ⟨x, rfl | h1, h2⟩
       · rw [hk] at h2; cases h2; exact .inl rfl
       · exact .inr ⟨x,h1,h2⟩
structure Post (w : World) (X : List Nat) (I : Hp) (R : Value → Hp → List Item → Prop) (v : Value) (w' : World) : Prop where
 out : ∃ I' B',St w X I' B' w' ∧ Ext w.heap.size I I' ∧ R v I' B'
def Fun (P : Program) (f : FuncId) (vs : List Value) (I : Hp) (Bc : List Item) (R : Value → Hp → List Item → Prop) : Prop :=
 ∀ w,St w (je Bc) I Bc w → Ret P f vs.toArray w fun v w' => Post w (je Bc) I R v w'
theorem leaf {w : World} {X : List Nat} {I I' : Hp} {B B' : List Item} {R : Value → Hp → List Item → Prop} {v : Value} (he : Ext w.heap.size I I') (hs : B'.Sublist B) (h : R v I' B') :
 ∀ w',St w X I' B w' → Post w X I R v w' := fun _ hw => ⟨_,_,hw.drop hs,he,h⟩
theorem qg {w : World} {X : List Nat} {I : Hp} {B : List Item} {R : Value → Hp → List Item → Prop} {v : Value} (h : R v I []) :
 ∀ w',St w X I B w' → Post w X I R v w' := leaf (Ext.refl _ _) (List.nil_sublist _) h
theorem Item.holds_same {w w' : World} {it : Item} (h : it.holds w) (hs : ∀ b,it.key = some b → w'.heap[b]? = w.heap[b]?) : it.holds w' := by
 cases it with
 | box b o => exact (hs b rfl).trans h
 | row v T s n xs =>
   refine ⟨h.1,?_⟩
   rcases h.2 with h2 | ⟨g,cap,cur,rfl,h3,h4,h5⟩
   · exact .inl h2
   · exact .inr ⟨g,cap,cur,rfl,h3,(hs g rfl).trans h4,h5⟩
theorem St.call {w0 w w' : World} {X : List Nat} {I I' : Hp} {Bc B B' : List Item} (h : St w0 X I (Bc ++ B) w) (h' : St w (je Bc) I' B' w') (he : Ext w.heap.size I I') : St w0 X I' (B' ++ B) w' ∧ Ext w0.heap.size I I' := by
 obtain ⟨hp1,hp2,hp3⟩ := List.pairwise_append.1 h.apart
 have inB : ∀ it,it ∈ B → it ∈ Bc ++ B := fun it hi => List.mem_append.2 (.inr hi)
 have inC : ∀ it,it ∈ Bc → it ∈ Bc ++ B := fun it hi => List.mem_append.2 (.inl hi)
 have hBlt : ∀ it,it ∈ B → ∀ b,it.key = some b → b < w.heap.size := fun it hi b hb => Item.holds_lt (h.own it (inB it hi)) hb
 have hBno : ∀ it, it ∈ B → ∀ b, it.key = some b → b ∉ je Bc := fun it hi b hb hm => by
   obtain ⟨x,hx,hxb⟩ := qfe.1 hm
   exact hp3 x hx it hi b hxb hb
 refine ⟨⟨h'.os.trans h.os,h'.tape.trans h.tape,h'.output.trans h.output,Nat.le_trans h.size h'.size,fun k hk hX => ?_,h'.imm,fun it hi => ?_,fun it hi b hb => ?_,?_⟩,⟨he.le,fun b h1 h2 => Nat.le_trans h.size (he.new b h1 h2)⟩⟩
 · rw [h'.keep k (Nat.lt_of_lt_of_le hk h.size) (fun hm => ?_)]
   · exact h.keep k hk hX
   · obtain ⟨x, hx, hxb⟩ := qfe.1 hm
     rcases (h.dis x (inC x hx) k hxb).2 with h1 | h1
     · omega
     · exact hX h1
 · rcases List.mem_append.1 hi with hi | hi
   · exact h'.own it hi
   · exact Item.holds_same (h.own it (inB it hi)) (fun b hb => h'.keep b (hBlt it hi b hb) (hBno it hi b hb))
 · rcases List.mem_append.1 hi with hi | hi
   · obtain ⟨h1, h2⟩ := h'.dis it hi b hb
     refine ⟨h1,?_⟩
     rcases h2 with h2 | h2
     · exact .inl (Nat.le_trans h.size h2)
     · obtain ⟨x, hx, hxb⟩ := qfe.1 h2
       exact (h.dis x (inC x hx) b hxb).2
   · obtain ⟨h1, h2⟩ := h.dis it (inB it hi) b hb
     refine ⟨?_,h2⟩
     cases hI : I' b with
     | none => rfl
     | some o =>
       have := he.new b h1 (by rw [hI]; exact fun e => (by cases e))
       have := hBlt it hi b hb
       omega
 · refine List.pairwise_append.2 ⟨h'.apart, hp2, fun x hx y hy b hxb hyb => ?_⟩
   rcases (h'.dis x hx b hxb).2 with h1 | h1
   · have := hBlt y hy b hyb; omega
   · exact hBno y hy b hyb h1
theorem St.forCall {w0 w : World} {X : List Nat} {I : Hp} {Bc B : List Item} (h : St w0 X I (Bc ++ B) w) : St w (je Bc) I Bc w :=
 ⟨rfl,rfl,rfl,Nat.le_refl _,fun _ _ _ => rfl,h.imm,fun it hi => h.own it (List.mem_append.2 (.inl hi)),fun it hi b hb => ⟨(h.dis it (List.mem_append.2 (.inl hi)) b hb).1,.inr (qfe.2 ⟨it,hi,hb⟩)⟩,(List.pairwise_append.1 h.apart).1⟩
section
variable {P : Program} {Q : Exit → Act → World → Prop} {n : Nat} {D : List Deferred} {E : Env} {S S' : World → Prop} {ops : Array Oper} {rest : List Oper} {d : Nat} {op : Op} {ty : TypeId} {pos : String} {aft : Array Edge} {g : Option (Nat × Bool)} {v : Value} {w0 : World} {X : List Nat} {I : Hp} {B : List Item}
theorem oP {qm : Bool} {f : FuncId} {args : List Operand} {ats : Array TypeId} {vs : List Value} (hg : qi ops E g) (hd : Nat.blt d n = true) (he : ∀ args w, (callFunc f args).run P w = .ok (.enter f args) w) (ha : evs E args = some vs)
   (hc : jw P f vs v) (k : TL qm P ops Q rest n D ((d,v) :: E) S) :
   TL qm P ops Q (⟨some d,.call { callee := .value (.func f),args := args.toArray,argTypes := ats },ty,pos,aft,g⟩ :: rest) n D E S :=
 ql2 hg hd he ha (fun w hw => (hc w).mono fun u w' ⟨h1,h2⟩ => ⟨h1,by rw [h2]; exact hw⟩) k
theorem yy {qm : Bool} {f : FuncId} {args : List Operand} {ats : Array TypeId} {vs : List Value} (hg : qi ops E g) (hd : Nat.blt d n = true) (he : ∀ args w, (callFunc f args).run P w = .ok (.enter f args) w) (ha : evs E args = some vs)
   (hc : Fun P f vs I [] (fun u _ _ => u = v)) (k : TL qm P ops Q rest n D ((d,v) :: E) (St w0 X I B)) :
   TL qm P ops Q (⟨some d,.call { callee := .value (.func f),args := args.toArray,argTypes := ats },ty,pos,aft,g⟩ :: rest) n D E (St w0 X I B) :=
 ql2 hg hd he ha (fun w hw => by
     refine (hc w (St.start hw.imm)).mono ?_;rintro v w' ⟨I',B',h1,h2,h3⟩;exact ⟨h3,hw.still (But.of_below (h1.below))⟩) k
theorem St.drawn {w0 w : World} {X : List Nat} {I : Hp} {B : List Item} (h : St w0 X I B w) : St w0 X I B { w with drawn := w.drawn + 1 } :=
 ⟨h.os,h.tape,h.output,h.size,h.keep,h.imm,fun it hi => Item.holds_but (b := none) ⟨rfl,rfl,rfl,Nat.le_refl _,fun _ _ _ => rfl⟩ (h.own it hi) (fun _ _ e => (by cases e)),h.dis,h.apart⟩
theorem qtj {f : FuncId} {args : List Operand} {ats : Array TypeId} {vs : List Value} (Bc : List Item) {B0 : List Item} {R : Value → Hp → List Item → Prop} (hg : qi ops E g) (hd : Nat.blt d n = true) (he : ∀ args w, (callFunc f args).run P w = .ok (.enter f args) w) (ha : evs E args = some vs)
   (hB : B = Bc ++ B0) (hc : Fun P f vs I Bc R) (k : ∀ v I' B',Ext w0.heap.size I I' → R v I' B' → TL false P ops Q rest n D ((d,v) :: E) (St w0 X I' (B' ++ B0))) :
   TL false P ops Q (⟨some d,.call { callee := .value (.func f),args := args.toArray,argTypes := ats },ty,pos,aft,g⟩ :: rest) n D E (St w0 X I B) :=
 qgn (ι := Value × Hp × List Item) (V := fun i => i.1) (SX := fun i => St w0 X i.2.1 (i.2.2 ++ B0)) (F := fun i => Ext w0.heap.size I i.2.1 ∧ R i.1 i.2.1 i.2.2) hg hd he ha
   (fun w hw => by
     subst hB
     refine (hc w hw.forCall).mono ?_;rintro v w' ⟨I',B',h1,h2,h3⟩
     obtain ⟨h4,h5⟩ := hw.call h1 h2
     exact ⟨(v,I',B'),rfl,⟨h5,h3⟩,h4⟩)
   (fun i h => k i.1 i.2.1 i.2.2 h.1 h.2)
theorem qff {f : FuncId} {args : List Operand} {ats : Array TypeId} {vs : List Value} {R : Value → Prop} (hg : qi ops E g) (hd : Nat.blt d n = true) (he : ∀ args w, (callFunc f args).run P w = .ok (.enter f args) w) (ha : evs E args = some vs)
   (hc : Fun P f vs I [] (fun v _ _ => R v)) (k : ∀ v,R v → TL false P ops Q rest n D ((d,v) :: E) (St w0 X I B)) :
   TL false P ops Q (⟨some d,.call { callee := .value (.func f),args := args.toArray,argTypes := ats },ty,pos,aft,g⟩ :: rest) n D E (St w0 X I B) :=
 qgn (ι := Value) (V := fun i => i) (SX := fun _ => St w0 X I B) (F := fun i => R i) hg hd he ha
   (fun w hw => by
     refine (hc w (St.start hw.imm)).mono ?_;rintro v w' ⟨I',B',h1,h2,h3⟩;exact ⟨v,rfl,h3,hw.still (But.of_below (h1.below))⟩)
   (fun i h => k i h)
theorem qdz {f : FuncId} {args : List Operand} {ats : Array TypeId} {vs : List Value} {R : Value → Hp → Prop} (hg : qi ops E g) (hd : Nat.blt d n = true) (he : ∀ args w, (callFunc f args).run P w = .ok (.enter f args) w) (ha : evs E args = some vs)
   (hc : Fun P f vs I [] (fun v I' _ => R v I')) (k : ∀ v I',Ext w0.heap.size I I' → R v I' → TL false P ops Q rest n D ((d,v) :: E) (St w0 X I' B)) :
   TL false P ops Q (⟨some d,.call { callee := .value (.func f),args := args.toArray,argTypes := ats },ty,pos,aft,g⟩ :: rest) n D E (St w0 X I B) :=
 qgn (ι := Value × Hp) (V := fun i => i.1) (SX := fun i => St w0 X i.2 B) (F := fun i => Ext w0.heap.size I i.2 ∧ R i.1 i.2) hg hd he ha
   (fun w hw => by
     refine (hc w (St.start hw.imm)).mono ?_;rintro v w' ⟨I',B',h1,h2,h3⟩
     have h1' : St w [] I' [] w' := h1.drop (List.nil_sublist _)
     obtain ⟨h4,h5⟩ := St.call (Bc := []) (B := B) hw h1' h2
     exact ⟨(v,I'),rfl,⟨h5,h3⟩,h4⟩)
   (fun i h => k i.1 i.2 h.1 h.2)
theorem qau {qm : Bool} {x : Operand} {t : TypeId} {s : ByteArray} (hg : qi ops E g) (hd : Nat.blt d n = true) (hu : P.underlying t = some .string) (hx : ev E x = some (.string s))
   (k : TL qm P ops Q rest n D ((d,.int .i64 s.size) :: E) S) : TL qm P ops Q (⟨some d,.call { callee := .builtin .len,args := #[x],argTypes := #[t] },ty,pos,aft,g⟩ :: rest) n D E S :=
 o_rd hg hd (v := .int .i64 s.size) (fun a w ha hw d pos aft g => ⟨w,by simp [execOp,resolve,ha.ev hx,invoke,builtin,Builtin.len_,run_underlying hu,goInt,Result.andThen],rfl⟩) k
theorem qin {qm : Bool} {x : Operand} {t e : TypeId} {A : Option Addr} {l c : Nat} (hg : qi ops E g) (hd : Nat.blt d n = true) (hu : P.underlying t = some (.slice e)) (hx : ev E x = some (.slice A l c))
   (k : TL qm P ops Q rest n D ((d,.int .i64 l) :: E) S) : TL qm P ops Q (⟨some d,.call { callee := .builtin .len,args := #[x],argTypes := #[t] },ty,pos,aft,g⟩ :: rest) n D E S :=
 o_rd hg hd (v := .int .i64 l) (fun a w ha hw d pos aft g => ⟨w,by simp [execOp,resolve,ha.ev hx,invoke,builtin,Builtin.len_,run_underlying hu,goInt,Result.andThen],rfl⟩) k
theorem qbd {qm : Bool} {x ix : Operand} {t : TypeId} {s : ByteArray} {kd : IntKind} {i : Int} (hg : qi ops E g) (hd : Nat.blt d n = true) (hu : P.underlying t = some .string) (hx : ev E x = some (.string s)) (hi : ev E ix = some (.int kd i)) (h : 0 ≤ i ∧ i < s.size)
   (k : TL qm P ops Q rest n D ((d,.int .u8 (s.get! i.toNat).toNat) :: E) S) : TL qm P ops Q (⟨some d,.index t x ix,ty,pos,aft,g⟩ :: rest) n D E S :=
 o_rd hg hd (v := .int .u8 (s.get! i.toNat).toNat) (fun a w ha hw d pos aft g => ⟨w, by
   have hlt : i.toNat < s.size := by omega
   have e : s[i.toNat]? = some (s.get! i.toNat) := by
     rw [getElem?_pos s i.toNat hlt]
     have : s.get! i.toNat = s[i.toNat] := by
       cases s with
       | mk dt => exact getElem!_pos dt _ hlt
     rw [this]
   simp [execOp,ha.ev hx,ha.ev hi,Instr.index,asIntOf,run_underlying hu,h.1,e,Result.andThen],rfl⟩) k
theorem qmb {qm : Bool} {x lo hi : Operand} {t : TypeId} {s : ByteArray} {kl kh : IntKind} {l m : Int} (hg : qi ops E g) (hd : Nat.blt d n = true) (hu : P.underlying t = some .string) (hx : ev E x = some (.string s)) (hlo : ev E lo = some (.int kl l)) (hl : ev E hi = some (.int kh m)) (h : 0 ≤ l ∧ l ≤ m ∧ m ≤ s.size)
   (k : TL qm P ops Q rest n D ((d,.string (s.extract l.toNat m.toNat)) :: E) S) : TL qm P ops Q (⟨some d,.slice t x (some lo) (some hi) none,ty,pos,aft,g⟩ :: rest) n D E S :=
 o_rd hg hd (v := .string (s.extract l.toNat m.toNat)) (fun a w ha hw d pos aft g => ⟨w, by
   have h0 : 0 ≤ m := by omega
   have h1 : l ≤ (m.toNat : Int) := by omega
   have h2 : l ≤ max m 0 := by omega
   simp [execOp,ha.ev hx,ha.ev hlo,ha.ev hl,Instr.sliceAt,Instr.slice,Instr.sliceBounds,Instr.sliceBound,asIntOf,run_underlying hu,h.1,h0,h.2.2,Result.andThen,h2],rfl⟩) k
theorem qtk {qm : Bool} {x y : Operand} {t t2 : TypeId} {s s2 : ByteArray} (hg : qi ops E g) (hd : Nat.blt d n = true) (hx : ev E x = some (.string s)) (hy : ev E y = some (.string s2)) (h : s.size + s2.size ≤ 9223372036854775807)
   (k : TL qm P ops Q rest n D ((d,.string (s ++ s2)) :: E) S) : TL qm P ops Q (⟨some d,.binOp .add t x y t2,ty,pos,aft,g⟩ :: rest) n D E S :=
 o_rd hg hd (v := .string (s ++ s2)) (fun a w ha hw d pos aft g => ⟨w, by
   have : ¬ (((s.size + s2.size : Nat) : Int) > IntKind.i64.max) := by
     have e : IntKind.i64.max = 9223372036854775807 := by decide
     rw [e]; omega
   simp only [execOp,ha.ev hx,ha.ev hy,Sem.run_bind,ql4,Result.andThen_ok]
   simp only [binOp,Op.stringOp,this,if_false]
   rfl,rfl⟩) k
theorem qav {qm : Bool} {x : Operand} {t t2 : TypeId} {kd kd2 : IntKind} {i : Int} {dt : TypeDesc} (hg : qi ops E g) (hd : Nat.blt d n = true) (hu : P.underlying t = some dt) (hu2 : P.underlying t2 = some (.int kd2)) (hx : ev E x = some (.int kd i))
   (k : TL qm P ops Q rest n D ((d,.int kd2 (kd2.wrap i)) :: E) S) : TL qm P ops Q (⟨some d,.convert t t2 x,ty,pos,aft,g⟩ :: rest) n D E S :=
 o_rd hg hd (v := .int kd2 (kd2.wrap i)) (fun a w ha hw d pos aft g => ⟨w, by
   simp [execOp,ha.ev hx,convert,run_underlying hu,run_underlying hu2,Conv.intToInt,Result.andThen],rfl⟩) k
theorem ya {qm : Bool} {x : Operand} {t t2 : TypeId} {kd kd2 : IntKind} {i : Int} {dt : TypeDesc} (hg : qi ops E g) (hd : Nat.blt d n = true) (hu : P.underlying t = some dt) (hu2 : P.underlying t2 = some (.int kd2)) (hx : ev E x = some (.int kd i)) (h : kd2.wrap i = i)
   (k : TL qm P ops Q rest n D ((d,.int kd2 i) :: E) S) : TL qm P ops Q (⟨some d,.convert t t2 x,ty,pos,aft,g⟩ :: rest) n D E S :=
 qav hg hd hu hu2 hx (by rw [h]; exact k)
theorem j6 {qm : Bool} {x y : Operand} {t t2 : TypeId} {kd : IntKind} {p q : Int} (hg : qi ops E g) (hd : Nat.blt d n = true) (hx : ev E x = some (.int kd p)) (hy : ev E y = some (.int kd q)) (h : 0 ≤ p ∧ 0 < q)
   (k : TL qm P ops Q rest n D ((d,.int kd (p % q)) :: E) S) : TL qm P ops Q (⟨some d,.binOp .rem t x y t2,ty,pos,aft,g⟩ :: rest) n D E S :=
 o_rd hg hd (v := .int kd (p % q)) (fun a w ha hw d pos aft g => ⟨w, by
   have h0 : ¬ q = 0 := by omega
   simp only [execOp,ha.ev hx,ha.ev hy,Sem.run_bind,qb9,Result.andThen_ok]
   simp [binOp,Op.intDiv,h0,Int.tmod_eq_emod_of_nonneg h.1],rfl⟩) k
theorem qcb {qm : Bool} {x y : Operand} {t t2 : TypeId} {kd : IntKind} {p q : Int} (hg : qi ops E g) (hd : Nat.blt d n = true) (hx : ev E x = some (.int kd p)) (hy : ev E y = some (.int kd q)) (h : 0 ≤ p ∧ 0 < q) (hb : kd.wrap (p / q) = p / q)
   (k : TL qm P ops Q rest n D ((d,.int kd (p / q)) :: E) S) : TL qm P ops Q (⟨some d,.binOp .quo t x y t2,ty,pos,aft,g⟩ :: rest) n D E S :=
 o_rd hg hd (v := .int kd (p / q)) (fun a w ha hw d pos aft g => ⟨w, by
   have h0 : ¬ q = 0 := by omega
   have h1 : p.tdiv q = p / q := Int.tdiv_eq_ediv_of_nonneg h.1
   simp only [execOp,ha.ev hx,ha.ev hy,Sem.run_bind,qb9,Result.andThen_ok]
   simp [binOp,Op.intDiv,h0,h1,hb],rfl⟩) k
theorem qmc {qm : Bool} {op2 : BinOp} {x y : Operand} {t t2 : TypeId} {p q : Value} (hg : qi ops E g) (hd : Nat.blt d n = true) (hx : ev E x = some p) (hy : ev E y = some q)
   (h : ∀ w,(do eqGuard op2 t x y p q; binOp op2 t p q : Sem Value).run P w = .ok v w)
   (k : TL qm P ops Q rest n D ((d,v) :: E) S) : TL qm P ops Q (⟨some d,.binOp op2 t x y t2,ty,pos,aft,g⟩ :: rest) n D E S :=
 o_rd hg hd (v := v) (fun a w ha hw d pos aft g => ⟨w, by
   have e := h w
   simp only [Sem.run_bind] at e
   simp only [execOp,ha.ev hx,ha.ev hy,Sem.run_bind,e,Result.andThen_ok]
   rfl,rfl⟩) k
inductive Rd : Nat → Nat → List Value → List Value → Prop
 | done {cs : List Value} : Rd 0 0 cs []
 | take {k : Nat} {c : Value} {cs r : List Value} : Rd 0 k cs r → Rd 0 (k + 1) (c :: cs) (c :: r)
 | skip {o k : Nat} {c : Value} {cs r : List Value} : Rd o k cs r → Rd (o + 1) k (c :: cs) r
theorem Rd.eq {o k : Nat} {cs r : List Value} (h : Rd o k cs r) : r = (cs.drop o).take k ∧ r.length = k := by
 induction h with
 | done => simp
 | take _ ih => exact ⟨by rw [ih.1]; simp,by simp [ih.2]⟩
 | skip _ ih => simpa using ih
theorem Rd.le {o k : Nat} {cs r : List Value} (h : Rd o k cs r) : o + k ≤ cs.length := by
 induction h with
 | done => simp
 | take _ ih => simp; omega
 | skip _ ih => simp; omega
inductive Wr : Nat → List Value → List Value → List Value → Prop
 | done {cs : List Value} : Wr 0 cs [] cs
 | put {c v : Value} {cs vs cs' : List Value} : Wr 0 cs vs cs' → Wr 0 (c :: cs) (v :: vs) (v :: cs')
 | skip {o : Nat} {c : Value} {cs vs cs' : List Value} : Wr o cs vs cs' → Wr (o + 1) (c :: cs) vs (c :: cs')
theorem Wr.len {o : Nat} {cs vs cs' : List Value} (h : Wr o cs vs cs') : o + vs.length ≤ cs.length ∧ cs'.length = cs.length := by
 induction h with
 | done => simp
 | put _ ih => simp; omega
 | skip _ ih => simp; omega
theorem Wr.eq {o : Nat} {cs vs cs' : List Value} (h : Wr o cs vs cs') : cs' = cs.take o ++ vs ++ cs.drop (o + vs.length) := by
 induction h with
 | done => simp
 | put _ ih => simpa using ih
 | skip _ ih => simp [ih,Nat.add_right_comm]
theorem qtl (w : World) (b o : Nat) (v : Value) (c : Array Value) (T : TypeId) (h : w.heap[b]? = some (.cells c T (0, 0))) :
   (w.setCell ⟨b,o,none⟩ v).heap[b]? = some (.cells (c.setIfInBounds o v) T (0,0)) ∧ But (some b) w (w.setCell ⟨b,o,none⟩ v) := by
 constructor
 · simp [World.setCell,Array.getElem?_modify,h]
 · refine ⟨rfl, rfl, rfl, by simp [World.setCell], fun k hk hb => ?_⟩
   exact Below.heap_setCell w _ v k (fun e => hb (by rw [e]))
def qbe : List Value → Bool
 | [] => true
 | .agg _ :: _ => false
 | .tuple _ :: _ => false
 | _ :: r => qbe r
theorem qtm {v : Value} {r : List Value} (h : qbe (v :: r) = true) : (∀ c,v ≠ .agg c) ∧ (∀ c,v ≠ .tuple c) ∧ qbe r = true := by
 cases v <;> simp_all [qbe]
theorem qtn {w : World} {a : Addr} {v u : Value} (hv : (∀ c,v ≠ .agg c) ∧ (∀ c,v ≠ .tuple c)) (hc : w.cell? a = some u) (hf : w.frozen? a = false) : (store a v).run P w = .ok () (w.setCell a v) := by
 cases v <;> first | exact absurd rfl (hv.1 _) | exact absurd rfl (hv.2 _) | simp [store,Sem.run,hc,hf]
theorem qmd (b off : Nat) (T : TypeId) : ∀ (vs : List Value) (i : Nat) (w : World) (cs : List Value), w.heap[b]? = some (.cells cs.toArray T (0, 0)) → off + i + vs.length ≤ cs.length → qbe vs = true →
   ∃ w',(storeCells ⟨b,off,none⟩ vs i).run P w = .ok () w' ∧ w'.heap[b]? = some (.cells (cs.take (off + i) ++ vs ++ cs.drop (off + i + vs.length)).toArray T (0,0)) ∧ But (some b) w w'
 | [],i,w,cs,h,hl,h1 => ⟨w,by simp [storeCells],by simpa using h,But.refl _ _⟩
 | v :: vs, i, w, cs, h, hl, h1 => by
   obtain ⟨ha,ht,hr⟩ := qtm h1
   simp only [List.length_cons] at hl
   have hlt : off + i < cs.length := by omega
   have hadd : (⟨b,off,none⟩ : Addr).add i = ⟨b,off + i,none⟩ := by unfold Addr.add; split <;> simp_all
   have hcell : w.cell? ⟨b,off + i,none⟩ = some cs[off + i] := by simp [World.cell?,h,hlt]
   have hfr : w.frozen? ⟨b,off + i,none⟩ = false := by simp [World.frozen?,h]
   obtain ⟨h2,h3⟩ := qtl w b (off + i) v _ T h
   have h2' : (w.setCell ⟨b,off + i,none⟩ v).heap[b]? = some (.cells (cs.set (off + i) v).toArray T (0,0)) := by simpa using h2
   obtain ⟨w',h4,h5,h6⟩ := qmd b off T vs (i + 1) _ (cs.set (off + i) v) h2' (by simp; omega) hr
   refine ⟨w',?_,?_,h3.trans h6⟩
   · simp only [storeCells, Sem.run_bind, hadd]
     rw [qtn ⟨ha,ht⟩ hcell hfr]
     exact h4
   · rw [h5]
     congr 2
     have e1 : (cs.set (off + i) v).take (off + (i + 1)) = cs.take (off + i) ++ [v] := by
       rw [show off + (i + 1) = off + i + 1 by omega,List.take_succ_eq_append_getElem (by simp; omega)]
       simp [List.take_set_of_le]
     have e2 : (cs.set (off + i) v).drop (off + (i + 1) + vs.length) = cs.drop (off + i + (vs.length + 1)) := by
       rw [List.drop_set_of_lt (by omega)]
       congr 1; omega
     rw [e1,e2]
     simp
theorem qio (w : World) (b off : Nat) (cs : List Value) (T : TypeId) (fz : Nat × Nat) (sz : Nat) (h : w.heap[b]? = some (.cells cs.toArray T fz)) (hl : off + sz ≤ cs.length) :
   (loadCells ⟨b,off,none⟩ sz).run P w = .ok ((cs.drop off).take sz).toArray w := by
 have := run_loadCells_list (P := P) w ⟨b, off, none⟩ ((cs.drop off).take sz) (fun j u hj => by
   have hadd : (⟨b,off,none⟩ : Addr).add j = ⟨b,off + j,none⟩ := by unfold Addr.add; split <;> simp_all
   rw [hadd]
   rw [List.getElem?_take] at hj
   split at hj
   · rw [List.getElem?_drop] at hj
     simp [World.cell?,h,hj]
   · cases hj)
 have hlen : ((cs.drop off).take sz).length = sz := by simp; omega
 rw [hlen] at this
 exact this
theorem qh {T : TypeId} {z : Value} {cs : List Value} (hg : qi ops E g) (hd : Nat.blt d n = true) (hz : ∀ w, (zeroValue T).run P w = .ok z w) (hc : z.cells = cs.toArray)
   (k : ∀ b,TL false P ops Q rest n D ((d,.pointer (some ⟨b,0,none⟩)) :: E) (St w0 X I (.box b (.cells cs.toArray T (0,0)) :: B))) : TL false P ops Q (⟨some d,.alloc T,ty,pos,aft,g⟩ :: rest) n D E (St w0 X I B) :=
 qas (ι := Nat) (V := fun b => .pointer (some ⟨b, 0, none⟩)) (SX := fun b => St w0 X I (.box b (.cells cs.toArray T (0, 0)) :: B)) (F := fun _ => True) hg hd
   (fun a w ha hw d pos aft g => ⟨w.alloc (.cells cs.toArray T), w.heap.size, by
     simp [execOp,Instr.alloc,hz,newVar,newRow,newObj,Sem.run,hc,Result.andThen],
     hw.new (But.alloc w _) (heap_alloc_new w _) (fun b hb => by cases hb; exact Nat.le_refl _),trivial⟩) (fun b _ => k b)
theorem qo {T : TypeId} {x : Operand} {cs : List Value} (hg : qi ops E g) (hd : Nat.blt d n = true) (hx : ev E x = some v) (hc : v.cells = cs.toArray)
   (k : ∀ b,TL false P ops Q rest n D ((d,.pointer (some ⟨b,0,none⟩)) :: E) (St w0 X I (.box b (.cells cs.toArray T (0,0)) :: B))) : TL false P ops Q (⟨some d,.box T x,ty,pos,aft,g⟩ :: rest) n D E (St w0 X I B) :=
 qas (ι := Nat) (V := fun b => .pointer (some ⟨b, 0, none⟩)) (SX := fun b => St w0 X I (.box b (.cells cs.toArray T (0, 0)) :: B)) (F := fun _ => True) hg hd
   (fun a w ha hw d pos aft g => ⟨w.alloc (.cells cs.toArray T), w.heap.size, by
     simp [execOp,Instr.box,ha.ev hx,newVar,newRow,newObj,Sem.run,hc,Result.andThen],
     hw.new (But.alloc w _) (heap_alloc_new w _) (fun b hb => by cases hb; exact Nat.le_refl _),trivial⟩) (fun b _ => k b)
theorem qip {T Tb : TypeId} {p x : Operand} {b off sz : Nat} {cs vs cs' : List Value} {B' : List Item} (hg : qi ops E g) (hp : ev E p = some (.pointer (some ⟨b, off, none⟩))) (hx : ev E x = some v) (hc : v.cells = vs.toArray) (hsz : ∀ w, (sizeOf T).run P w = .ok sz w) (hl : vs.length = sz) (h1 : qbe vs = true)
   (hB : Put B (.box b (.cells cs.toArray Tb (0,0))) B' (.box b (.cells cs'.toArray Tb (0,0)))) (hw : Wr off cs vs cs')
   (k : TL false P ops Q rest n D E (St w0 X I B')) : TL false P ops Q (⟨none,.store T p x,ty,pos,aft,g⟩ :: rest) n D E (St w0 X I B) :=
 qgm hg (S' := St w0 X I B') (fun a w ha hS d pos aft g => by
   have hbox : w.heap[b]? = some (.cells cs.toArray Tb (0,0)) := hS.own _ hB.mem
   obtain ⟨w',h2,h3,h4⟩ := qmd (P := P) b off Tb vs 0 w cs hbox (by have := hw.len.1; omega) h1
   refine ⟨w',?_,hS.turn hB h4 (by show w'.heap[b]? = _; rw [hw.eq]; simpa using h3) (fun _ h => .inl h)⟩
   have hs : (v.cells.size ≠ sz) = False := by rw [hc]; simp [hl]
   have hv : v.cells.toList = vs := by rw [hc]
   have hs' : ¬ (v.cells.size ≠ sz) := by rw [hs]; exact id
   simp only [execOp,ha.ev hp,ha.ev hx,Instr.storeAt,Instr.sureAddr,storeVar,Sem.run_bind,Sem.run_pure,Result.andThen_ok,hsz,hv,if_neg hs',h2]) k
theorem qme {qm : Bool} {T Tb : TypeId} {p : Operand} {b off : Nat} {cs : List Value} {fz : Nat × Nat} (hg : qi ops E g) (hd : Nat.blt d n = true) (hagg : ∀ w, (isAgg T).run P w = .ok false w) (hp : ev E p = some (.pointer (some ⟨b, off, none⟩)))
   (hB : Item.box b (.cells cs.toArray Tb fz) ∈ B) (hr : Rd off 1 cs [v])
   (k : TL qm P ops Q rest n D ((d,v) :: E) (St w0 X I B)) : TL qm P ops Q (⟨some d,.load T p,ty,pos,aft,g⟩ :: rest) n D E (St w0 X I B) :=
 o_rd hg hd (v := v) (fun a w ha hw d pos aft g => ⟨w, by
   have hbox : w.heap[b]? = some (.cells cs.toArray Tb fz) := hw.own _ hB
   have e : cs[off]? = some v := by
     have h2 := congrArg (·[0]?) hr.eq.1
     simpa [List.getElem?_take,List.getElem?_drop] using h2.symm
   have hcell : w.cell? ⟨b,off,none⟩ = some v := by simp [World.cell?,hbox,e]
   simp [execOp,ha.ev hp,Instr.loadAt,Instr.sureAddr,loadVar,hagg,hcell,Result.andThen],rfl⟩) k
theorem qgq {qm : Bool} {T Tb : TypeId} {p : Operand} {b off sz : Nat} {cs r : List Value} {fz : Nat × Nat} (hg : qi ops E g) (hd : Nat.blt d n = true) (hagg : ∀ w, (isAgg T).run P w = .ok true w) (hsz : ∀ w, (sizeOf T).run P w = .ok sz w) (hp : ev E p = some (.pointer (some ⟨b, off, none⟩)))
   (hB : Item.box b (.cells cs.toArray Tb fz) ∈ B) (hr : Rd off sz cs r)
   (k : TL qm P ops Q rest n D ((d,.agg r.toArray) :: E) (St w0 X I B)) : TL qm P ops Q (⟨some d,.load T p,ty,pos,aft,g⟩ :: rest) n D E (St w0 X I B) :=
 o_rd hg hd (v := .agg r.toArray) (fun a w ha hw d pos aft g => ⟨w, by
   have hbox : w.heap[b]? = some (.cells cs.toArray Tb fz) := hw.own _ hB
   have hl := hr.le
   have := qio (P := P) w b off cs Tb fz sz hbox hl
   rw [← hr.eq.1] at this
   simp [execOp,ha.ev hp,Instr.loadAt,Instr.sureAddr,loadVar,hagg,hsz,this,Result.andThen],rfl⟩) k
theorem oX {qm : Bool} {t T : TypeId} {f off sz : Nat} {x : Operand} {fs : Array Field} {fl : Field} {b o : Nat} (hg : qi ops E g) (hd : Nat.blt d n = true) (hu : P.underlying t = some (.struct fs)) (hf : fs[f]? = some fl) (ho : fl.offset = off) (ht : fl.type = T) (hsz : ∀ w, (sizeOf T).run P w = .ok sz w) (hs0 : Nat.blt 0 sz = true)
   (hx : ev E x = some (.pointer (some ⟨b,o,none⟩)))
   (k : TL qm P ops Q rest n D ((d,.pointer (some ⟨b,o + off,none⟩)) :: E) S) : TL qm P ops Q (⟨some d,.fieldAddr t x f,ty,pos,aft,g⟩ :: rest) n D E S :=
 o_rd hg hd (v := .pointer (some ⟨b, o + off, none⟩)) (fun a w ha hw d pos aft g => ⟨w, by
   subst ho; subst ht
   have h0 : ¬ sz = 0 := by
     have : 0 < sz := by simpa using hs0
     omega
   have hadd : (⟨b,o,none⟩ : Addr).add fl.offset = ⟨b,o + fl.offset,none⟩ := by unfold Addr.add; split <;> simp_all
   simp [execOp,ha.ev hx,Instr.fieldAt,Instr.sureAddr,run_underlying hu,hf,fieldPlace,hsz,h0,hadd,Result.andThen],rfl⟩) k
def qcc (E : Env) : List (Nat × Operand) → Option (List (Nat × Value))
 | [] => some []
 | (i, x) :: r => match ev E x with
   | some v => match qcc E r with
     | some vs => some ((i,v) :: vs)
     | none => none
   | none => none
theorem qgr {a : Act} (ha : Fits n D E a) : ∀ {l : List (Nat × Operand)} {ps : List (Nat × Value)}, qcc E l = some ps → l.map (fun p => (p.1, a.eval p.2)) = ps
 | [],ps,h => by simp only [qcc,Option.some.injEq] at h; subst h; rfl
 | (i, x) :: l, ps, h => by
   simp only [qcc] at h
   split at h
   · rename_i v hv
     split at h
     · rename_i vs hvs
       cases h
       rw [List.map_cons,qgr ha hvs,ha.ev hv]
     · cases h
   · cases h
inductive Bld (pl : List (Nat × Nat)) : List Value → List (Nat × Value) → List Value → Prop
 | nil {z : List Value} : Bld pl z [] z
 | cons {i off sz : Nat} {v : Value} {vs z z' z'' : List Value} {ps : List (Nat × Value)} : pl[i]? = some (off,sz) → v.cells = vs.toArray → vs.length = sz → Wr off z vs z' → Bld pl z' ps z'' → Bld pl z ((i,v) :: ps) z''
theorem qiq : ∀ (vs : List Value) (k : Nat) (z : List Value) (off : Nat), off + k + vs.length ≤ z.length →
   (vs.zipIdx k).foldl (fun (cs : Array Value) (p : Value × Nat) => cs.setIfInBounds (off + p.2) p.1) z.toArray = (z.take (off + k) ++ vs ++ z.drop (off + k + vs.length)).toArray
 | [],k,z,off,h => by simp
 | v :: vs, k, z, off, h => by
   simp only [List.length_cons] at h
   rw [List.zipIdx_cons,List.foldl_cons]
   have e : (z.toArray.setIfInBounds (off + k) v) = (z.set (off + k) v).toArray := by simp
   simp only [e]
   rw [qiq vs (k + 1) (z.set (off + k) v) off (by simp; omega)]
   congr 1
   have e1 : (z.set (off + k) v).take (off + (k + 1)) = z.take (off + k) ++ [v] := by
     rw [show off + (k + 1) = off + k + 1 by omega,List.take_succ_eq_append_getElem (by simp; omega)]
     simp [List.take_set_of_le]
   have e2 : (z.set (off + k) v).drop (off + (k + 1) + vs.length) = z.drop (off + k + (vs.length + 1)) := by
     rw [List.drop_set_of_lt (by omega)]
     congr 1; omega
   rw [e1,e2]
   simp
theorem Bld.fill {pl : List (Nat × Nat)} {z r : List Value} {ps : List (Nat × Value)} (h : Bld pl z ps r) : Instr.fill (pl.toArray[·]?) z.toArray ps = some r.toArray := by
 induction h with
 | nil => rfl
 | @cons i off sz v vs z z' z'' ps hp hv hl hw _ ih =>
   have hlen := hw.len.1
   have hp' : pl.toArray[i]? = some (off,sz) := by simpa using hp
   simp only [Instr.fill,hp']
   have hc : (v.cells.size ≠ sz || off + v.cells.size > z.toArray.size) = false := by
     rw [hv]
     simp [hl]
     omega
   rw [hc]
   simp only [Bool.false_eq_true,if_false]
   have e : (v.cells.zipIdx.foldl (fun cs (x : Value × Nat) => match x with | (c,j) => cs.setIfInBounds (off + j) c) z.toArray) = z'.toArray := by
     rw [hv,hw.eq]
     have := qiq vs 0 z off (by omega)
     simp only [Nat.add_zero] at this
     rw [← this]
     simp [← Array.foldl_toList]
   rw [e]
   exact ih
structure qab (P : Program) (t : TypeId) (z : List Value) (pl : List (Nat × Nat)) : Prop where
 fields : ∃ fs,P.underlying t = some (.struct fs) ∧ ∀ w,(fs.mapM (m := Sem) fun f => do pure (f.offset,← sizeOf f.type)).run P w = .ok pl.toArray w
 zero : ∀ w,(zeroValue t).run P w = .ok (.agg z.toArray) w
theorem vg {qm : Bool} {t : TypeId} {parts : List (Nat × Operand)} {ps : List (Nat × Value)} {z r : List Value} {pl : List (Nat × Nat)} (hg : qi ops E g) (hd : Nat.blt d n = true) (ht : qab P t z pl) (hp : qcc E parts = some ps)
   (hb : Bld pl z ps r) (k : TL qm P ops Q rest n D ((d,.agg r.toArray) :: E) S) : TL qm P ops Q (⟨some d,.build t parts.toArray,ty,pos,aft,g⟩ :: rest) n D E S :=
 o_rd hg hd (v := .agg r.toArray) (fun a w ha hw d pos aft g => ⟨w, by
   have e : (parts.toArray.map fun (i,x) => (i,a.eval x)) = ps.toArray := by
     rw [List.map_toArray]
     exact congrArg _ (qgr ha hp)
   obtain ⟨fs,hu,hm⟩ := ht.fields
   simp only [execOp,e,Instr.build,Sem.run_bind,ht.zero,Result.andThen_ok,run_underlying hu,Value.cells]
   erw [hm w]
   simp only [Result.andThen_ok,hb.fill]
   rfl,rfl⟩) k
theorem qmf {qm : Bool} {t : TypeId} {parts : List (Nat × Operand)} {ps : List (Nat × Value)} {r : Value} (hg : qi ops E g) (hd : Nat.blt d n = true) (hp : qcc E parts = some ps)
   (hr : ∀ w,(Instr.build t ps.toArray).run P w = .ok r w)
   (k : TL qm P ops Q rest n D ((d,r) :: E) S) : TL qm P ops Q (⟨some d,.build t parts.toArray,ty,pos,aft,g⟩ :: rest) n D E S :=
 o_rd hg hd (v := r) (fun a w ha hw d pos aft g => ⟨w, by
   have e : (parts.toArray.map fun (i,x) => (i,a.eval x)) = ps.toArray := by
     rw [List.map_toArray]
     exact congrArg _ (qgr ha hp)
   simp only [execOp,e,Sem.run_bind,hr,Result.andThen_ok]
   rfl,rfl⟩) k
theorem qto {t : TypeId} {x : Operand} {s : ByteArray} (hg : qi ops E g) (hd : Nat.blt d n = true) (hu : P.underlying t = some .string) (hx : ev E x = some (.string s))
   (k : ∀ b,TL false P ops Q rest n D ((d,.pointer (some ⟨b,0,none⟩)) :: E) (St w0 X I (.box b (.stringIter s 0) :: B))) : TL false P ops Q (⟨some d,.range t x,ty,pos,aft,g⟩ :: rest) n D E (St w0 X I B) :=
 qas (ι := Nat) (V := fun b => .pointer (some ⟨b, 0, none⟩)) (SX := fun b => St w0 X I (.box b (.stringIter s 0) :: B)) (F := fun _ => True) hg hd
   (fun a w ha hw d pos aft g => ⟨w.alloc (.stringIter s 0), w.heap.size, by
     simp [execOp,ha.ev hx,run_range_string w t s hu,World.iter,Result.andThen],
     hw.new (But.alloc w _) (heap_alloc_new w _) (fun b hb => by cases hb; exact Nat.le_refl _),trivial⟩) (fun b _ => k b)
theorem qtp {x : Operand} {s : ByteArray} {b p : Nat} {B' : List Item} (hg : qi ops E g) (hd : Nat.blt d n = true) (hx : ev E x = some (.pointer (some ⟨b, 0, none⟩)))
   (hB : Put B (.box b (.stringIter s p)) B' (.box b (.stringIter s (p + (Utf8.decode s p).2)))) (hp : p < s.size)
   (k : TL false P ops Q rest n D ((d,.tuple #[.bool true,.int .i64 p,.int .i32 (Utf8.decode s p).1]) :: E) (St w0 X I B')) : TL false P ops Q (⟨some d,.next x true,ty,pos,aft,g⟩ :: rest) n D E (St w0 X I B) :=
 o_op hg hd (v := .tuple #[.bool true, .int .i64 p, .int .i32 (Utf8.decode s p).1]) (S' := St w0 X I B') (fun a w ha hw d pos aft g => by
   have hbox : w.heap[b]? = some (.stringIter s p) := hw.own _ hB.mem
   refine ⟨{ w with heap := w.heap.setIfInBounds b (.stringIter s (p + (Utf8.decode s p).2)) },?_,hw.turn hB ?_ ?_ (fun _ h => .inl h)⟩
   · simp [execOp,ha.ev hx,Instr.next,getObj,setObj,Sem.run,hbox,hp,goInt,Result.andThen]
   · refine ⟨rfl, rfl, rfl, by simp, fun k hk hb => ?_⟩
     have : b ≠ k := fun e => hb (by rw [e]; rfl)
     simp [Array.getElem?_setIfInBounds,this]
   · show (w.heap.setIfInBounds b _)[b]? = _
     have hlt := (Array.getElem?_eq_some_iff.1 hbox).1
     simp [hlt]) k
theorem qtq {qm : Bool} {x : Operand} {s : ByteArray} {b p : Nat} (hg : qi ops E g) (hd : Nat.blt d n = true) (hx : ev E x = some (.pointer (some ⟨b, 0, none⟩)))
   (hB : Item.box b (.stringIter s p) ∈ B) (hp : s.size ≤ p)
   (k : TL qm P ops Q rest n D ((d,.tuple #[.bool false]) :: E) (St w0 X I B)) : TL qm P ops Q (⟨some d,.next x true,ty,pos,aft,g⟩ :: rest) n D E (St w0 X I B) :=
 o_rd hg hd (v := .tuple #[.bool false]) (fun a w ha hw d pos aft g => ⟨w, by
   have hbox : w.heap[b]? = some (.stringIter s p) := hw.own _ hB
   have hn : ¬ p < s.size := by omega
   simp [execOp,ha.ev hx,Instr.next,getObj,Sem.run,hbox,hn,Result.andThen],rfl⟩) k
inductive Res (P : Program) (E : Env) (B : List Item) : List ResultVar → List Value → Prop
 | nil : Res P E B [] []
 | tmp {t : Nat} {v : Value} {rs : List ResultVar} {vs : List Value} : look E t = some v → Res P E B rs vs → Res P E B (.tmp t :: rs) (v :: vs)
 | agg {t T Tb : TypeId} {b sz : Nat} {cs : List Value} {rs : List ResultVar} {vs : List Value} : (∀ w, (isAgg T).run P w = .ok true w) → (∀ w, (sizeOf T).run P w = .ok sz w) → look E t = some (.pointer (some ⟨b, 0, none⟩)) →
     Item.box b (.cells cs.toArray Tb (0,0)) ∈ B → cs.length = sz → Res P E B rs vs → Res P E B (.cell t T :: rs) (.agg cs.toArray :: vs)
 | one {t T Tb : TypeId} {b : Nat} {v : Value} {rs : List ResultVar} {vs : List Value} : (∀ w, (isAgg T).run P w = .ok false w) → look E t = some (.pointer (some ⟨b, 0, none⟩)) →
     Item.box b (.cells #[v] Tb (0,0)) ∈ B → Res P E B rs vs → Res P E B (.cell t T :: rs) (v :: vs)
def tup : List Value → Value
 | [v] => v
 | vs => .tuple vs.toArray
theorem Res.run {rs : List ResultVar} {vs : List Value} (h : Res P E B rs vs) {a : Act} {w : World} (ha : Fits n D E a) (hw : St w0 X I B w) :
   (rs.mapM (m := Sem) fun
     | .tmp t => pure (a.tmps.getD t undef)
     | .cell q t => do loadVar t (← asAddr (a.tmps.getD q undef))).run P w = .ok vs w := by
 induction h with
 | nil => rfl
 | tmp hv _ ih =>
   have hget := ha.get _ _ hv
   rw [List.mapM_cons]
   simp only [hget,Sem.run_bind,Sem.run_pure,Result.andThen_ok,ih]
 | @agg t T Tb b sz cs rs vs hagg hsz hp hB hl _ ih =>
   have hget := ha.get _ _ hp
   have hbox : w.heap[b]? = some (.cells cs.toArray Tb (0,0)) := hw.own _ hB
   have hld := qio (P := P) w b 0 cs Tb (0,0) sz hbox (by omega)
   have e : List.take sz cs = cs := List.take_of_length_le (by omega)
   rw [List.drop_zero,e] at hld
   have hh : (do loadVar T (← asAddr (a.tmps.getD t undef)) : Sem Value).run P w = .ok (.agg cs.toArray) w := by
     rw [hget]
     simp only [asAddr,loadVar,Sem.run_bind,Sem.run_pure,Result.andThen_ok,hagg,if_true,hsz,hld]
   rw [List.mapM_cons,Sem.run_bind]
   show Result.andThen ((do loadVar T (← asAddr (a.tmps.getD t undef)) : Sem Value).run P w) _ = _
   rw [hh]
   simp only [Result.andThen_ok,Sem.run_bind,ih,Sem.run_pure]
 | @one t T Tb b v rs vs hagg hp hB _ ih =>
   have hget := ha.get _ _ hp
   have hbox : w.heap[b]? = some (.cells #[v] Tb (0,0)) := hw.own _ hB
   have hcell : w.cell? ⟨b,0,none⟩ = some v := by simp [World.cell?,hbox]
   have hl : (load ⟨b,0,none⟩).run P w = .ok v w := by rw [run_load,hcell]
   have hh : (do loadVar T (← asAddr (a.tmps.getD t undef)) : Sem Value).run P w = .ok v w := by
     rw [hget]
     simp only [asAddr,loadVar,Sem.run_bind,Sem.run_pure,Result.andThen_ok,hagg,Bool.false_eq_true,if_false,hl]
   rw [List.mapM_cons,Sem.run_bind]
   show Result.andThen ((do loadVar T (← asAddr (a.tmps.getD t undef)) : Sem Value).run P w) _ = _
   rw [hh]
   simp only [Result.andThen_ok,Sem.run_bind,ih,Sem.run_pure]
theorem retR {fn : Func} {rs : List ResultVar} {vs : List Value} {R : Value → World → Prop} (hres : fn.results = rs.toArray) (hr : Res P E B rs vs) (h : ∀ w, St w0 X I B w → R (tup vs) w) : TE (BP P fn R) .ret n [] E (St w0 X I B) := ⟨fun a w ha hw => by
 have hrun := hr.run ha hw
 refine bodyPost_ret (v := tup vs) ?_ ha.defs ⟨_,rfl,h w hw⟩
 simp only [results,hres,List.mapM_toArray,Sem.run_bind,Sem.run_map]
 erw [hrun]
 simp only [Result.andThen_ok,Sem.run_pure]
 cases vs with
 | nil => rfl
 | cons v r => cases r with
   | nil => rfl
   | cons v2 r => simp [tup]⟩
end
end Go.Tw
namespace Go.Tw
open Go Go.RowKit Go.ChangeShapes Go.WideShapes Go.ChangeAt
theorem qmg {H : Type} {enc : TypeId × Value → H} {P : Program} (hl : laidOutB P = true) {W W' : World} (hb : Below W.heap.size W W') :
   ∀ {ts : List TypeId} {vs : List Value} {ds : List (DataW H)} {ps : List MemPlace},(ts.all fun t => P.readableRec t && decide (t < P.types.size)) = true → DataW.TrodAll enc P W 0 (fun _ => true) true ts vs ds ps → (∀ x ∈ ps,x.block < W.heap.size) →
   DataW.TrodAll enc P W' 0 (fun b => decide (b < W.heap.size)) true ts vs ds ps
 | [],[],[],_,_,h,_ => h
 | [],_ :: _,_,_,_,h,_ => by cases h
 | [],[],_ :: _,_,_,h,_ => by cases h
 | _ :: _,[],_,_,_,h,_ => by cases h
 | _ :: _,_ :: _,[],_,_,h,_ => by cases h
 | t :: ts, v :: vs, d :: ds, ps, ht, h, hlt => by
   obtain ⟨p,q,h1,h2,rfl⟩ := h
   simp only [List.all_cons,Bool.and_eq_true] at ht
   exact ⟨p,q,Below.trod hl ht.1.1 (of_decide_eq_true ht.1.2) h1 hb (fun x hx => hlt x (List.mem_append_left _ hx)),qmg hl hb ht.2 h2 (fun x hx => hlt x (List.mem_append_right _ hx)),rfl⟩
theorem qtr {H : Type} {enc : TypeId × Value → H} {P : Program} {f : Func} {s : ChangeSpec} {W W' : World} {args : Array Value} {ds gs : List (DataW H)} {before : List MemPlace} {tb : TypeId}
   (hW : DataW.Whole enc P f.params.toList s.vars false W args.toList ds gs before) (hv : s.vars = []) (hf : s.fn H (ds ++ gs) = { results := [.lit (.bool true)],args := ds }) (hres : f.resultTypes = #[tb]) (htb : P.underlying tb = some .bool)
   (hl : laidOutB P = true) (hp : (f.params.toList.all fun t => P.readableRec t && decide (t < P.types.size)) = true) (hb : Below W.heap.size W W') :
   s.post enc P f false true false false W args (.bool true) W' := by
 have hlt : ∀ x ∈ before,x.block < W.heap.size := fun x hx => by simpa using hW.lt x hx
 have hW' := hW
 obtain ⟨p,q,hA,hV,rfl,hfz,hnd⟩ := hW
 rw [hv] at hV
 obtain ⟨rfl,rfl⟩ := trodVars_none hV
 refine ⟨ds,[],_,[],p,[],hW',?_,?_,?_,hb.frame _,fun h => by cases h⟩
 · rw [hf, hres]
   exact trodAll_cons_mk (shut_bool htb true) trodAll_mk0
 · rw [hf]
   exact qmg hl hb hp hA (fun x hx => hlt x (List.mem_append_left _ hx))
 · rw [hf, hv]
   exact trodAll_none_vars
where
 trodAll_none_vars {H : Type} {enc : TypeId × Value → H} {P : Program} {w : World} {sp : Nat → Bool} : DataW.TrodVars enc P w sp [] [] [] := rfl
theorem qts {P : Program} {f : FuncId} {vs : List Value} {W : World} (h : Fun P f vs (World.hp W) [] (fun v _ _ => v = .bool true)) : Calls P f vs.toArray W fun e W' => e = .returned (.bool true) ∧ Below W.heap.size W W' := by
 refine Calls.mono (h W (St.start (qth W))) ?_;rintro e W' ⟨v,rfl,I',B',h1,_,rfl⟩;exact ⟨rfl,h1.below⟩
end Go.Tw
namespace Go.Tw
open Go Go.RowKit
section
variable {P : Program} {Q : Exit → Act → World → Prop} {n : Nat} {D : List Deferred} {E : Env} {S S' : World → Prop} {ops : Array Oper} {rest : List Oper} {d : Nat} {op : Op} {ty : TypeId} {pos : String} {aft : Array Edge} {g : Option (Nat × Bool)} {v : Value} {w0 : World} {X : List Nat} {I : Hp} {B : List Item}
theorem qmh {f : FuncId} {args : List Operand} {ats : Array TypeId} {vs : List Value} {c : Operand} {first vs0 caps : List Value} {ι : Type} {V : ι → Value} {SX : ι → World → Prop} {F : ι → Prop} (hg : qi ops E g) (hd : Nat.blt d n = true) (hc0 : ev E c = some (.func (.func f) first.toArray caps.toArray)) (he : ∀ args w, (callFunc f args).run P w = .ok (.enter f args) w) (ha : evs E args = some vs0) (hvs : first ++ vs0 ++ caps = vs)
   (hc : ∀ w,S w → Ret P f vs.toArray w fun v w' => ∃ i,v = V i ∧ F i ∧ SX i w') (k : ∀ i,F i → TL false P ops Q rest n D ((d,V i) :: E) (SX i)) :
   TL false P ops Q (⟨some d,.call { callee := .value c,args := args.toArray,argTypes := ats },ty,pos,aft,g⟩ :: rest) n D E S := ⟨fun a w hf hw => by
 refine qbb (z7 hg hf) ?_
 have hargs : (args.toArray.map a.eval) = vs0.toArray := by
   rw [List.map_toArray,hf.evs ha]
 have hrun : (execOp a.eval ⟨some d,.call { callee := .value c,args := args.toArray,argTypes := ats },ty,pos,aft,g⟩).run P w = .ok (.enter f vs.toArray) w := by
   simp only [execOp,resolve,hf.ev hc0,Deferred.ofValue,hargs,Sem.run_bind,Sem.run_pure,Result.andThen_ok,invoke]
   have e := he vs.toArray w
   rw [← hvs] at e ⊢
   simpa using e
 unfold Oper.wp
 rw [hrun]
 refine Calls.mono (hc w hw) ?_;rintro e w'' ⟨v,rfl,i,rfl,hF,hS⟩;exact (k i hF).out _ _ (hf.put hd _) hS⟩
theorem qtt {f : FuncId} {args : List Operand} {ats : Array TypeId} {vs : List Value} {c : Operand} {first vs0 caps : List Value} (Bc : List Item) {B0 : List Item} {R : Value → Hp → List Item → Prop} (hg : qi ops E g) (hd : Nat.blt d n = true) (hc0 : ev E c = some (.func (.func f) first.toArray caps.toArray)) (he : ∀ args w, (callFunc f args).run P w = .ok (.enter f args) w) (ha : evs E args = some vs0) (hvs : first ++ vs0 ++ caps = vs)
   (hB : B = Bc ++ B0) (hc : Fun P f vs I Bc R) (k : ∀ v I' B',Ext w0.heap.size I I' → R v I' B' → TL false P ops Q rest n D ((d,v) :: E) (St w0 X I' (B' ++ B0))) :
   TL false P ops Q (⟨some d,.call { callee := .value c,args := args.toArray,argTypes := ats },ty,pos,aft,g⟩ :: rest) n D E (St w0 X I B) :=
 qmh (ι := Value × Hp × List Item) (V := fun i => i.1) (SX := fun i => St w0 X i.2.1 (i.2.2 ++ B0)) (F := fun i => Ext w0.heap.size I i.2.1 ∧ R i.1 i.2.1 i.2.2) hg hd hc0 he ha hvs
   (fun w hw => by
     subst hB
     refine (hc w hw.forCall).mono ?_;rintro v w' ⟨I',B',h1,h2,h3⟩
     obtain ⟨h4,h5⟩ := hw.call h1 h2
     exact ⟨(v,I',B'),rfl,⟨h5,h3⟩,h4⟩)
   (fun i h => k i.1 i.2.1 i.2.2 h.1 h.2)
theorem qtu {f : FuncId} {args : List Operand} {ats : Array TypeId} {vs : List Value} {c : Operand} {first vs0 caps : List Value} {R : Value → Hp → Prop} (hg : qi ops E g) (hd : Nat.blt d n = true) (hc0 : ev E c = some (.func (.func f) first.toArray caps.toArray)) (he : ∀ args w, (callFunc f args).run P w = .ok (.enter f args) w) (ha : evs E args = some vs0) (hvs : first ++ vs0 ++ caps = vs)
   (hc : Fun P f vs I [] (fun v I' _ => R v I')) (k : ∀ v I',Ext w0.heap.size I I' → R v I' → TL false P ops Q rest n D ((d,v) :: E) (St w0 X I' B)) :
   TL false P ops Q (⟨some d,.call { callee := .value c,args := args.toArray,argTypes := ats },ty,pos,aft,g⟩ :: rest) n D E (St w0 X I B) :=
 qmh (ι := Value × Hp) (V := fun i => i.1) (SX := fun i => St w0 X i.2 B) (F := fun i => Ext w0.heap.size I i.2 ∧ R i.1 i.2) hg hd hc0 he ha hvs
   (fun w hw => by
     refine (hc w (St.start hw.imm)).mono ?_;rintro v w' ⟨I',B',h1,h2,h3⟩
     have h1' : St w [] I' [] w' := h1.drop (List.nil_sublist _)
     obtain ⟨h4,h5⟩ := St.call (Bc := []) (B := B) hw h1' h2
     exact ⟨(v,I'),rfl,⟨h5,h3⟩,h4⟩)
   (fun i h => k i.1 i.2 h.1 h.2)
end
end Go.Tw
namespace Go.Tw
open Go Go.RowKit
inductive Take : Item → List Item → List Item → Prop
 | here {it : Item} {B : List Item} : Take it (it :: B) B
 | there {it x : Item} {B B' : List Item} : Take it B B' → Take it (x :: B) (x :: B')
theorem Take.perm {it : Item} {B B' : List Item} (h : Take it B B') : B.Perm (it :: B') := by
 induction h with
 | here => exact .refl _
 | there _ ih => exact (ih.cons _).trans (.swap _ _ _)
inductive qac : List Item → List Item → List Item → Prop
 | nil {B : List Item} : qac [] B B
 | cons {it : Item} {r B B1 B0 : List Item} : Take it B B1 → qac r B1 B0 → qac (it :: r) B B0
theorem qac.perm {r B B0 : List Item} (h : qac r B B0) : B.Perm (r ++ B0) := by
 induction h with
 | nil => exact .refl _
 | cons h1 _ ih => exact h1.perm.trans (ih.cons _)
theorem St.perm {w0 w : World} {X : List Nat} {I : Hp} {B B' : List Item} (h : St w0 X I B w) (hp : B.Perm B') : St w0 X I B' w :=
 ⟨h.os, h.tape, h.output, h.size, h.keep, h.imm, fun it hi => h.own it (hp.mem_iff.2 hi), fun it hi => h.dis it (hp.mem_iff.2 hi),
   (hp.pairwise_iff (fun {x y} hxy b hb e => hxy b e hb)).1 h.apart⟩
theorem St.sort {w0 w : World} {X : List Nat} {I : Hp} {B B' R : List Item} (h : St w0 X I B w) (ht : qac B' B R) : St w0 X I B' w :=
 (h.perm ht.perm).drop (List.sublist_append_left _ _)
section
variable {P : Program} {Q : Exit → Act → World → Prop} {n : Nat} {D : List Deferred} {E : Env} {S S' : World → Prop} {ops : Array Oper} {rest : List Oper} {d : Nat} {op : Op} {ty : TypeId} {pos : String} {aft : Array Edge} {g : Option (Nat × Bool)} {v : Value} {w0 : World} {X : List Nat} {I : Hp} {B : List Item}
theorem TL.pre {l : List Oper} (h : TL false P ops Q l n D E S) (hs : ∀ w,S' w → S w) : TL false P ops Q l n D E S' := ⟨fun a w ha hw => h.out a w ha (hs w hw)⟩
theorem oC {f : FuncId} {args : List Operand} {ats : Array TypeId} {vs : List Value} {Bc B0 : List Item} {R : Value → Hp → List Item → Prop} (hg : qi ops E g) (hd : Nat.blt d n = true) (he : ∀ args w, (callFunc f args).run P w = .ok (.enter f args) w) (ha : evs E args = some vs)
   (hc : Fun P f vs I Bc R) (hB : qac Bc B B0) (k : ∀ v I' B',Ext w0.heap.size I I' → R v I' B' → TL false P ops Q rest n D ((d,v) :: E) (St w0 X I' (B' ++ B0))) :
   TL false P ops Q (⟨some d,.call { callee := .value (.func f),args := args.toArray,argTypes := ats },ty,pos,aft,g⟩ :: rest) n D E (St w0 X I B) :=
 (qtj Bc hg hd he ha rfl hc k).pre fun w h => h.perm hB.perm
theorem qir {f : FuncId} {args : List Operand} {ats : Array TypeId} {vs : List Value} {c : Operand} {first vs0 caps : List Value} {Bc B0 : List Item} {R : Value → Hp → List Item → Prop} (hg : qi ops E g) (hd : Nat.blt d n = true) (hc0 : ev E c = some (.func (.func f) first.toArray caps.toArray)) (he : ∀ args w, (callFunc f args).run P w = .ok (.enter f args) w) (ha : evs E args = some vs0) (hvs : first ++ vs0 ++ caps = vs)
   (hc : Fun P f vs I Bc R) (hB : qac Bc B B0) (k : ∀ v I' B',Ext w0.heap.size I I' → R v I' B' → TL false P ops Q rest n D ((d,v) :: E) (St w0 X I' (B' ++ B0))) :
   TL false P ops Q (⟨some d,.call { callee := .value c,args := args.toArray,argTypes := ats },ty,pos,aft,g⟩ :: rest) n D E (St w0 X I B) :=
 (qtt Bc hg hd hc0 he ha hvs rfl hc k).pre fun w h => h.perm hB.perm
end
end Go.Tw
namespace Go.Tw
open Go Go.RowKit
inductive qbt (sz : Nat) : Nat → List (Nat × Value) → List Value → Prop
 | nil {k : Nat} : qbt sz k [] []
 | cons {k : Nat} {v : Value} {c cs : List Value} {ps : List (Nat × Value)} : v.cells = c.toArray → c.length = sz → qbt sz (k + 1) ps cs → qbt sz k ((k,v) :: ps) (c ++ cs)
theorem qbt.len {sz k : Nat} {ps : List (Nat × Value)} {cs : List Value} (h : qbt sz k ps cs) : cs.length = ps.length * sz := by
 induction h with
 | nil => simp
 | cons _ h1 _ ih => simp [h1,ih,Nat.add_mul,Nat.add_comm]
theorem qbt.fill {sz k : Nat} {ps : List (Nat × Value)} {cs : List Value} (h : qbt sz k ps cs) : ∀ (done zs : List Value), done.length = k * sz → zs.length = cs.length →
   Instr.fill (fun i => some (i * sz,sz)) (done ++ zs).toArray ps = some (done ++ cs).toArray := by
 induction h with
 | nil => intro done zs h1 h2; have : zs = [] := List.length_eq_zero_iff.1 (by simpa using h2); simp [Instr.fill,this]
 | @cons k v c cs ps hc hl hr ih =>
   intro done zs h1 h2
   have hz : zs.length = sz + cs.length := by rw [h2]; simp [hl]
   unfold Instr.fill
   simp only [hc]
   have hcond : ¬ (c.toArray.size ≠ sz ∨ k * sz + c.toArray.size > (done ++ zs).toArray.size) := by
     simp [hl,hz,h1] <;> omega
   have hb : (c.toArray.size != sz || decide (k * sz + c.toArray.size > (done ++ zs).toArray.size)) = false := by
     simp [hl,hz,h1] <;> omega
   have e : (c.toArray.zipIdx.foldl (fun cs (x : Value × Nat) => match x with | (c,j) => cs.setIfInBounds (k * sz + j) c) (done ++ zs).toArray) = ((done ++ c) ++ zs.drop sz).toArray := by
     have := qiq c 0 (done ++ zs) (k * sz) (by simp [hz,hl,h1] <;> omega)
     simp only [Nat.add_zero] at this
     rw [← h1] at this ⊢
     rw [List.take_append_of_le_length (Nat.le_refl _),List.take_length,List.drop_append,List.drop_eq_nil_of_le (by omega),hl] at this
     simp only [List.nil_append] at this
     have e2 : done.length + sz - done.length = sz := by omega
     rw [e2] at this
     rw [← this]
     simp [← Array.foldl_toList]
   split
   · rename_i hh; exact absurd hh (by simpa using hcond)
   · erw [e]
     rw [ih (done ++ c) (zs.drop sz) (by simp [h1,hl,Nat.add_mul]) (by simp [hz])]
     simp
variable {P : Program} {Q : Exit → Act → World → Prop} {n : Nat} {D : List Deferred} {E : Env} {S S' : World → Prop} {ops : Array Oper} {rest : List Oper} {d : Nat} {op : Op} {ty : TypeId} {pos : String} {aft : Array Edge} {g : Option (Nat × Bool)} {v : Value} {w0 : World} {X : List Nat} {I : Hp} {B : List Item}
theorem qmi {t e : TypeId} {len sz : Nat} {parts : List (Nat × Operand)} {ps : List (Nat × Value)} {z : Value} {cs : List Value} (hg : qi ops E g) (hd : Nat.blt d n = true) (hu : P.underlying t = some (.slice e)) (hsz : ∀ w, (sizeOf e).run P w = .ok sz w) (hz : ∀ w, (zeroValue e).run P w = .ok z w) (hs : len * sz ≤ 2 ^ 24) (hpos : 0 < len * sz)
   (hp : qcc E parts = some ps) (hf : qbt sz 0 ps cs) (hl : ps.length = len)
   (k : ∀ b,TL false P ops Q rest n D ((d,.slice (some ⟨b,0,none⟩) len len) :: E) (St w0 X I (.box b (.cells cs.toArray e (0,0)) :: B))) : TL false P ops Q (⟨some d,.buildSlice t len parts.toArray,ty,pos,aft,g⟩ :: rest) n D E (St w0 X I B) :=
 qas (ι := Nat) (V := fun b => .slice (some ⟨b, 0, none⟩) len len) (SX := fun b => St w0 X I (.box b (.cells cs.toArray e (0, 0)) :: B)) (F := fun _ => True) hg hd
   (fun a w ha hw d pos aft g => ⟨w.alloc (.cells cs.toArray e (0, 0)), w.heap.size, by
     have ep : (parts.toArray.map fun (i,x) => (i,a.eval x)) = ps.toArray := by
       rw [List.map_toArray]
       exact congrArg _ (qgr ha hp)
     have hfill := hf.fill [] ((List.range (len * sz)).map fun i => z.cells[i % z.cells.size]!) (by simp) (by simp [hf.len,hl])
     have hfill' : Instr.fill (fun i => some (i * sz,sz)) ((Array.range (len * sz)).map (z.cells[· % z.cells.size]!)) ps = some cs.toArray := by
       rw [List.nil_append,List.nil_append] at hfill
       rw [← hfill]
       congr 1
       apply Array.ext'
       simp
     have h1 : ¬ len * sz > 2 ^ 24 := by omega
     have h2 : ¬ len * sz = 0 := by omega
     simp only [execOp,ep,Instr.buildSlice,run_underlying hu,Sem.run_bind,hsz,Result.andThen_ok,Sem.run_ite,if_neg h1,if_neg h2,hz,Sem.run_pure,hfill',newRow,run_newObj]
     rfl,
     hw.new (But.alloc w _) (heap_alloc_new w _) (fun b hb => by cases hb; exact Nat.le_refl _),trivial⟩) (fun b _ => k b)
def zb (ns : List Int) : ByteArray := ⟨(ns.map fun n => UInt8.ofNat n.toNat).toArray⟩
theorem qtv (ns : List Int) : ∀ (r : ByteArray),ns.foldl (fun r n => r.push (UInt8.ofNat n.toNat)) r = ⟨(r.data.toList ++ ns.map fun n => UInt8.ofNat n.toNat).toArray⟩ := by
 induction ns with
 | nil => intro r; simp
 | cons n ns ih => intro r; rw [List.foldl_cons,ih]; simp [ByteArray.push]
theorem qmj (ns : List Int) : ns.foldl (fun r n => r.push (UInt8.ofNat n.toNat)) ByteArray.empty = zb ns := by rw [qtv]; rfl
theorem qis (ns : List Int) : (zb ns).size = ns.length := by simp [zb,ByteArray.size]
theorem lit_size (a : Array UInt8) : (ByteArray.mk a).size = a.size := rfl
theorem qtw {qm : Bool} {x : Operand} {t t2 e : TypeId} {b l c : Nat} {ns : List Int} {T : TypeId} {fz : Nat × Nat} (hg : qi ops E g) (hd : Nat.blt d n = true) (hs : P.underlying t = some (.slice e)) (he : P.underlying e = some (.int .u8)) (hd2 : P.underlying t2 = some .string) (hx : ev E x = some (.slice (some ⟨b, 0, none⟩) l c))
   (hB : Item.box b (.cells (ns.map (Value.int .u8)).toArray T fz) ∈ B) (hl : ns.length = l)
   (k : TL qm P ops Q rest n D ((d,.string (zb ns)) :: E) (St w0 X I B)) : TL qm P ops Q (⟨some d,.convert t t2 x,ty,pos,aft,g⟩ :: rest) n D E (St w0 X I B) :=
 o_rd hg hd (v := .string (zb ns)) (fun a w ha hw d pos aft g => ⟨w, by
   have hb : w.heap[b]? = some (.cells (ns.map (Value.int .u8)).toArray T fz) := hw.own _ hB
   have hld := qio (P := P) w b 0 (ns.map (Value.int .u8)) T fz l hb (by simp [hl])
   have hstr := run_bytesToString (P := P) w ⟨b,0,none⟩ l c ns (by rw [hld,← hl]; simp [List.take_of_length_le])
   simp only [execOp,ha.ev hx,Sem.run_bind,run_convert_bytes_string w t t2 e _ _ _ hs he hd2,hstr,Result.andThen_ok,qmj]
   rfl,rfl⟩) k
end Go.Tw
namespace Go.Tw
open Go Go.RowKit
def slcB : Value → Nat
 | .slice (some a) _ _ => a.block
 | _ => 0
def slcO : Value → Nat
 | .slice (some a) _ _ => a.off
 | _ => 0
theorem add_none (b off k : Nat) : (⟨b,off,none⟩ : Addr).add k = ⟨b,off + k,none⟩ := by unfold Addr.add; split <;> simp_all
structure Slc (I : Hp) (sz : Nat) (v : Value) (xs : List (List Value)) : Prop where
 shape : (∃ A,v = .slice A 0 0 ∧ xs = []) ∨ ∃ b off cap,v = .slice (some ⟨b,off,none⟩) xs.length cap ∧ xs.length ≤ cap
 cells : ∀ j c,xs[j]? = some c → ∀ k u,c[k]? = some u → I.cell? ⟨slcB v,slcO v + j * sz + k,none⟩ = some u
 lens : ∀ c ∈ xs,c.length = sz
 most : xs.length ≤ maxLen
theorem Slc.le {I I' : Hp} {sz : Nat} {v : Value} {xs : List (List Value)} (h : Slc I sz v xs) (hl : I.Le I') : Slc I' sz v xs :=
 ⟨h.shape,fun j c hj k u hk => hl.cell (h.cells j c hj k u hk),h.lens,h.most⟩
theorem Slc.nilA (I : Hp) (sz : Nat) (A : Option Addr) : Slc I sz (.slice A 0 0) [] := ⟨.inl ⟨A,rfl,rfl⟩,fun j c h => by simp at h,fun c h => (by cases h),Nat.zero_le _⟩
theorem Slc.nil (I : Hp) (sz : Nat) : Slc I sz (.slice none 0 0) [] := Slc.nilA I sz none
theorem Slc.form {I : Hp} {sz : Nat} {v : Value} {xs : List (List Value)} (h : Slc I sz v xs) (hp : 0 < xs.length) : ∃ cap,v = .slice (some ⟨slcB v,slcO v,none⟩) xs.length cap ∧ xs.length ≤ cap := by
 rcases h.shape with ⟨_,_,h2⟩ | ⟨b,off,cap,rfl,hc⟩
 · subst h2; simp at hp
 · exact ⟨cap,rfl,hc⟩
theorem Slc.len {I : Hp} {sz : Nat} {v : Value} {xs : List (List Value)} (h : Slc I sz v xs) : ∃ A cap,v = .slice A xs.length cap := by
 rcases h.shape with ⟨A,h1,h2⟩ | ⟨b,off,cap,h1,_⟩
 · subst h2; exact ⟨_,_,h1⟩
 · exact ⟨_,_,h1⟩
section
variable {P : Program} {Q : Exit → Act → World → Prop} {n : Nat} {D : List Deferred} {E : Env} {S S' : World → Prop} {ops : Array Oper} {rest : List Oper} {d : Nat} {op : Op} {ty : TypeId} {pos : String} {aft : Array Edge} {g : Option (Nat × Bool)} {v : Value} {w0 : World} {X : List Nat} {I : Hp} {B : List Item}
theorem qw {qm : Bool} {x : Operand} {t e : TypeId} {sz : Nat} {u : Value} {xs : List (List Value)} (hg : qi ops E g) (hd : Nat.blt d n = true) (hu : P.underlying t = some (.slice e)) (hx : ev E x = some u) (hs : Slc I sz u xs)
   (k : TL qm P ops Q rest n D ((d,.int .i64 xs.length) :: E) S) : TL qm P ops Q (⟨some d,.call { callee := .builtin .len,args := #[x],argTypes := #[t] },ty,pos,aft,g⟩ :: rest) n D E S := by
 obtain ⟨A,cap,hv⟩ := hs.len
 exact qin hg hd hu (by rw [hx,hv]) k
theorem vk {qm : Bool} {x ix : Operand} {t e : TypeId} {sz : Nat} {u : Value} {xs : List (List Value)} {kd : IntKind} {i : Int} (hg : qi ops E g) (hd : Nat.blt d n = true) (hu : P.underlying t = some (.slice e)) (hsz : ∀ w, (sizeOf e).run P w = .ok sz w) (hx : ev E x = some u) (hs : Slc I sz u xs) (hi : ev E ix = some (.int kd i)) (h : 0 ≤ i ∧ i < xs.length)
   (k : TL qm P ops Q rest n D ((d,.pointer (some ⟨slcB u,slcO u + i.toNat * sz,none⟩)) :: E) S) : TL qm P ops Q (⟨some d,.indexAddr t x ix,ty,pos,aft,g⟩ :: rest) n D E S := by
 obtain ⟨cap,hv,_⟩ := hs.form (by omega)
 refine o_rd hg hd (v := .pointer (some ⟨slcB u,slcO u + i.toNat * sz,none⟩)) (fun a w ha hw d pos aft g => ⟨w,?_,rfl⟩) k
 have hx' : a.eval x = .slice (some ⟨slcB u,slcO u,none⟩) xs.length cap := by rw [ha.ev hx]; exact hv
 have hh : (0 ≤ i ∧ i < (xs.length : Int)) := h
 simp only [execOp,hx',ha.ev hi,Instr.indexAt,asIntOf,Sem.run_bind,Sem.run_pure,run_underlying hu,Result.andThen_ok,hsz,Sem.run_ite,if_pos hh,add_none]
theorem q8 {qm : Bool} {T : TypeId} {p : Operand} {b off : Nat} (hg : qi ops E g) (hd : Nat.blt d n = true) (hagg : ∀ w, (isAgg T).run P w = .ok false w) (hp : ev E p = some (.pointer (some ⟨b, off, none⟩))) (hI : I.cell? ⟨b, off, none⟩ = some v)
   (k : TL qm P ops Q rest n D ((d,v) :: E) (St w0 X I B)) : TL qm P ops Q (⟨some d,.load T p,ty,pos,aft,g⟩ :: rest) n D E (St w0 X I B) :=
 o_rd hg hd (v := v) (fun a w ha hw d pos aft g => ⟨w, by
   have hcell : w.cell? ⟨b,off,none⟩ = some v := Hp.In.cell hw.imm hI
   simp [execOp,ha.ev hp,Instr.loadAt,Instr.sureAddr,loadVar,hagg,hcell,Result.andThen],rfl⟩) k
theorem y7 {qm : Bool} {T : TypeId} {p : Operand} {b off sz : Nat} {cs : List Value} (hg : qi ops E g) (hd : Nat.blt d n = true) (hagg : ∀ w, (isAgg T).run P w = .ok true w) (hsz : ∀ w, (sizeOf T).run P w = .ok sz w) (hp : ev E p = some (.pointer (some ⟨b, off, none⟩))) (hl : cs.length = sz) (hI : ∀ k u, cs[k]? = some u → I.cell? ⟨b, off + k, none⟩ = some u)
   (k : TL qm P ops Q rest n D ((d,.agg cs.toArray) :: E) (St w0 X I B)) : TL qm P ops Q (⟨some d,.load T p,ty,pos,aft,g⟩ :: rest) n D E (St w0 X I B) :=
 o_rd hg hd (v := .agg cs.toArray) (fun a w ha hw d pos aft g => ⟨w, by
   have h := run_loadCells_list (P := P) w ⟨b,off,none⟩ cs (fun j u hj => by rw [add_none]; exact Hp.In.cell hw.imm (hI j u hj))
   rw [hl] at h
   simp [execOp,ha.ev hp,Instr.loadAt,Instr.sureAddr,loadVar,hagg,hsz,h,Result.andThen],rfl⟩) k
def zo (P : Program) (e : TypeId) (size bytes : Nat) : Prop := ∃ i z,P.info? e = some i ∧ i.zero = some z ∧ i.size = size ∧ i.bytes = bytes ∧ z.cells.size = size
def jo : List Value → Bool
 | [] => true
 | v :: r => v.oneCell' && jo r
theorem qd0 : ∀ {l : List Value}, jo l = true → ∀ u ∈ l, u.oneCell' = true
 | [],_,u,h => by cases h
 | v :: r, h, u, hu => by
   simp only [jo,Bool.and_eq_true] at h
   rcases List.mem_cons.1 hu with rfl | hu
   · exact h.1
   · exact qd0 h.2 u hu
theorem jb {sl x : Operand} {t e Tb : TypeId} {size bytes m c b nn : Nat} {u : Value} {xs news : List Value} {fz : Nat × Nat} {B' : Value → List Item} (hg : qi ops E g) (hd : Nat.blt d n = true) (hu : P.underlying t = some (.slice e)) (he : zo P e size bytes) (hpos : 0 < size)
   (hsl : ev E sl = some u) (hx : ev E x = some (.slice (some ⟨b,0,none⟩) m c)) (hput : ∀ v',Put B (.row u e size nn xs) (B' v') (.row v' e size (nn + m) (xs ++ news))) (hbox : Item.box b (.cells news.toArray Tb fz) ∈ B) (hl : news.length = m * size) (h1 : jo news = true)
   (hmax : nn + m ≤ maxLen) (hby : (nn + m) * bytes ≤ 140737488355328)
   (k : ∀ v',TL false P ops Q rest n D ((d,v') :: E) (St w0 X I (B' v'))) : TL false P ops Q (⟨some d,.call { callee := .builtin .append,args := #[sl,x],argTypes := #[t,t] },ty,pos,aft,g⟩ :: rest) n D E (St w0 X I B) :=
 qas (ι := Value) (V := fun v' => v') (SX := fun v' => St w0 X I (B' v')) (F := fun _ => True) hg hd
   (fun a w ha hw d pos aft g => by
     obtain ⟨i,z,h2,h3,h4,h5,h6⟩ := he
     have hown : w.ownsRow 0 e size u nn xs := hw.own _ (hput u).mem
     have hb : w.heap[b]? = some (.cells news.toArray Tb fz) := hw.own _ hbox
     have hnews : ∀ j y, news[j]? = some y → w.cell? ((⟨b, 0, none⟩ : Addr).add j) = some y := fun j y hj => by
       rw [add_none]; simp [World.cell?,hb,hj]
     obtain ⟨v',w',hr,hown',hgr,_,hkey⟩ := run_append_own_at (P := P) w 0 t ty e i z size bytes hu h2 h3 h4 h5 h6 hpos u nn xs hown ⟨b,0,none⟩ m c news hl hnews (qd0 h1) hmax hby (Nat.zero_le _)
     refine ⟨w',v',?_,hw.turn (hput v') (But.of_grown hgr) hown' (fun k hk => ?_),trivial⟩
     · simp only [execOp,resolve,List.map_toArray,List.map_cons,List.map_nil,ha.ev hsl,ha.ev hx,Sem.run_bind,Sem.run_pure,Result.andThen_ok,invoke,builtin,hr]
     · change v'.ownBlock = some k at hk
       rcases hkey with e1 | e1
       · exact .inl (by rw [← hk,e1]; rfl)
       · rw [e1] at hk; cases hk; exact .inr (Nat.le_refl _)) (fun v' _ => k v')
theorem St.nilRow {w : World} (h : St w0 X I B w) (e : TypeId) (size : Nat) : St w0 X I (.row (.slice none 0 0) e size 0 [] :: B) w :=
 ⟨h.os, h.tape, h.output, h.size, h.keep, h.imm, fun it hi => by
   rcases List.mem_cons.1 hi with rfl | hi
   · exact ⟨by simp,.inl ⟨rfl,rfl⟩⟩
   · exact h.own it hi,fun it hi b hb => by
   rcases List.mem_cons.1 hi with rfl | hi
   · cases hb
   · exact h.dis it hi b hb,List.pairwise_cons.2 ⟨fun y _ b hb => (by cases hb),h.apart⟩⟩
theorem yi {qm : Bool} {x : Operand} {t e T : TypeId} {size nn : Nat} {u : Value} {xs : List Value} (hg : qi ops E g) (hd : Nat.blt d n = true) (hu : P.underlying t = some (.slice e)) (hx : ev E x = some u) (hB : Item.row u T size nn xs ∈ B)
   (k : TL qm P ops Q rest n D ((d,.int .i64 nn) :: E) (St w0 X I B)) : TL qm P ops Q (⟨some d,.call { callee := .builtin .len,args := #[x],argTypes := #[t] },ty,pos,aft,g⟩ :: rest) n D E (St w0 X I B) :=
 o_rd hg hd (v := .int .i64 nn) (fun a w ha hw d pos aft g => ⟨w, by
   have hown : w.ownsRow 0 T size u nn xs := hw.own _ hB
   have hv : ∃ A cap,u = .slice A nn cap := by
     rcases hown.2 with ⟨rfl,h⟩ | ⟨gg,cap,cur,rfl,_⟩
     · subst h; exact ⟨_,_,rfl⟩
     · exact ⟨_,_,rfl⟩
   obtain ⟨A,cap,rfl⟩ := hv
   simp [execOp,resolve,ha.ev hx,invoke,builtin,Builtin.len_,run_underlying hu,goInt,Result.andThen],rfl⟩) k
theorem Put.first {it it' : Item} {B : List Item} : Put (it :: B) it (it' :: B) it' := .here
theorem St.sealRow {w : World} {e : TypeId} {size nn : Nat} {u : Value} {xss : List (List Value)} (h : St w0 [] I (.row u e size nn xss.flatten :: B) w) (hn : xss.length = nn) (hlen : ∀ c ∈ xss, c.length = size) (hm : nn ≤ maxLen) :
   ∃ I',St w0 [] I' B w ∧ Ext w0.heap.size I I' ∧ Slc I' size u xss := by
 have hown : w.ownsRow 0 e size u nn xss.flatten := h.own _ List.mem_cons_self
 rcases hown.2 with ⟨rfl,h0⟩ | ⟨gg,cap,cur,rfl,_,hgg,hcap,_,hcs,htake⟩
 · subst h0
   have : xss = [] := List.length_eq_zero_iff.1 hn
   subst this
   exact ⟨I,h.drop (List.sublist_cons_self _ _),Ext.refl _ _,Slc.nil _ _⟩
 · have hbox : St w0 [] I (.box gg (.cells cur e (0,0)) :: B) w := by
     refine ⟨h.os,h.tape,h.output,h.size,h.keep,h.imm,fun it hi => ?_,fun it hi b hb => ?_,?_⟩
     · rcases List.mem_cons.1 hi with rfl | hi
       · exact hgg
       · exact h.own it (List.mem_cons_of_mem _ hi)
     · rcases List.mem_cons.1 hi with rfl | hi
       · cases hb; exact h.dis _ List.mem_cons_self gg rfl
       · exact h.dis it (List.mem_cons_of_mem _ hi) b hb
     · obtain ⟨h1, h2⟩ := List.pairwise_cons.1 h.apart
       exact List.pairwise_cons.2 ⟨fun y hy b hb => h1 y hy b hb,h2⟩
   have hnew : w0.heap.size ≤ gg := by
     rcases (h.dis _ List.mem_cons_self gg rfl).2 with h1 | h1
     · exact h1
     · cases h1
   have hInone : I gg = none := (h.dis _ List.mem_cons_self gg rfl).1
   refine ⟨_,hbox.seal_,⟨fun b o hb => ?_,fun b hb hb' => ?_⟩,⟨.inr ⟨gg,0,cap,by rw [hn],by omega⟩,fun j c hj k y hk => ?_,hlen,by omega⟩⟩
   · show (if b = gg then _ else I b) = some o
     by_cases hbg : b = gg
     · subst hbg; rw [hInone] at hb; cases hb
     · rw [if_neg hbg]; exact hb
   · by_cases hbg : b = gg
     · subst hbg; exact hnew
     · rw [if_neg hbg] at hb'; exact absurd hb hb'
   · have hj' := (List.getElem?_eq_some_iff.1 hj).1
     have hk' := (List.getElem?_eq_some_iff.1 hk).1
     have hcl := hlen c (List.mem_of_getElem? hj)
     have hflat : xss.flatten[j * size + k]? = some y := flat_get hlen j c hj k y hk
     have hcur : cur[j * size + k]? = some y := by
       rw [← htake] at hflat
       rw [List.getElem?_take] at hflat
       split at hflat
       · simpa using hflat
       · cases hflat
     simp only [Hp.cell?,slcB,slcO,if_true]
     simpa using hcur
where
 flat_get {size : Nat} : ∀ {xss : List (List Value)}, (∀ c ∈ xss, c.length = size) → ∀ j c, xss[j]? = some c → ∀ k y, c[k]? = some y → xss.flatten[j * size + k]? = some y
   | [],_,j,c,hj,k,y,hk => by simp at hj
   | x :: r, hl, 0, c, hj, k, y, hk => by
     simp only [List.getElem?_cons_zero,Option.some.injEq] at hj
     subst hj
     rw [List.flatten_cons,Nat.zero_mul,Nat.zero_add,List.getElem?_append_left (List.getElem?_eq_some_iff.1 hk).1]
     exact hk
   | x :: r, hl, j + 1, c, hj, k, y, hk => by
     have hx := hl x List.mem_cons_self
     simp only [List.getElem?_cons_succ] at hj
     have ih := flat_get (fun c hc => hl c (List.mem_cons_of_mem _ hc)) j c hj k y hk
     rw [List.flatten_cons,List.getElem?_append_right (by rw [hx,Nat.add_mul,Nat.one_mul]; omega),hx]
     rw [show (j + 1) * size + k - size = j * size + k by rw [Nat.add_mul,Nat.one_mul]; omega]
     exact ih
theorem qit {w : World} {e : TypeId} {size nn : Nat} {u v : Value} {xss : List (List Value)} {R : Value → Hp → List Item → Prop} (hn : xss.length = nn) (hlen : ∀ c ∈ xss, c.length = size) (hm : nn ≤ maxLen) (h : ∀ I', I.Le I' → Slc I' size u xss → R v I' []) :
   ∀ w',St w [] I (.row u e size nn xss.flatten :: B) w' → Post w [] I R v w' := fun w' hw => by
 obtain ⟨I',h1,h2,h3⟩ := hw.sealRow hn hlen hm
 exact ⟨I',[],h1.drop (List.nil_sublist _),h2,h I' h2.le h3⟩
end
end Go.Tw
namespace Go.Tw
open Go Go.RowKit
def jp (u : Value) (lo hi sz : Nat) : Value := match u with
 | .slice a _ c => sliced a lo hi c sz
 | v => v
theorem Slc.cut {I : Hp} {sz : Nat} {u : Value} {xs : List (List Value)} (h : Slc I sz u xs) {lo hi : Nat} (h1 : lo ≤ hi) (h2 : hi ≤ xs.length) : Slc I sz (jp u lo hi sz) ((xs.take hi).drop lo) := by
 have hl : ((xs.take hi).drop lo).length = hi - lo := by simp; omega
 rcases h.shape with ⟨A,rfl,rfl⟩ | ⟨b,off,cap,rfl,hc⟩
 · have e1 : hi = 0 := by simpa using h2
   have e2 : lo = 0 := by omega
   subst e1; subst e2
   exact Slc.nilA _ _ A
 · have hm := h.most
   refine ⟨?_,?_,fun c hcm => h.lens c (List.mem_of_mem_take (List.mem_of_mem_drop hcm)),by rw [hl]; omega⟩
   · right
     rw [hl]
     simp only [jp,sliced]
     by_cases hcl : cap = lo
     · rw [if_pos hcl]; exact ⟨b,off,cap - lo,rfl,by omega⟩
     · rw [if_neg hcl,Option.map_some,add_none]; exact ⟨b,off + lo * sz,cap - lo,rfl,by omega⟩
   · intro j c hj k y hk
     have hj' : xs[lo + j]? = some c := by
       rw [List.getElem?_drop,List.getElem?_take] at hj
       split at hj
       · exact hj
       · cases hj
     have hlt := (List.getElem?_eq_some_iff.1 hj).1
     rw [hl] at hlt
     have hcl : ¬ cap = lo := by omega
     have hcell := h.cells (lo + j) c hj' k y hk
     simp only [jp,sliced,if_neg hcl,Option.map_some,add_none,slcB,slcO] at hcell ⊢
     rw [show off + lo * sz + j * sz + k = off + (lo + j) * sz + k by rw [Nat.add_mul]; omega]
     exact hcell
def qc3 (P : Program) (e : TypeId) (size bytes : Nat) (zs : List Value) : Prop := ∃ i z,P.info? e = some i ∧ i.zero = some z ∧ i.size = size ∧ i.bytes = bytes ∧ z.cells = zs.toArray ∧ zs.length = size
theorem qc3.ty {P : Program} {e : TypeId} {size bytes : Nat} {zs : List Value} (h : qc3 P e size bytes zs) : zo P e size bytes := by
 obtain ⟨i,z,h1,h2,h3,h4,h5,h6⟩ := h
 exact ⟨i,z,h1,h2,h3,h4,by rw [h5]; simpa using h6⟩
section
variable {P : Program} {Q : Exit → Act → World → Prop} {n : Nat} {D : List Deferred} {E : Env} {S S' : World → Prop} {ops : Array Oper} {rest : List Oper} {d : Nat} {op : Op} {ty : TypeId} {pos : String} {aft : Array Edge} {g : Option (Nat × Bool)} {v : Value} {w0 : World} {X : List Nat} {I : Hp} {B : List Item}
theorem qmk {qm : Bool} {x hx : Operand} {t e : TypeId} {sz : Nat} {u : Value} {xs : List (List Value)} {kd : IntKind} {h : Int} (hg : qi ops E g) (hd : Nat.blt d n = true) (hu : P.underlying t = some (.slice e)) (hsz : ∀ w, (sizeOf e).run P w = .ok sz w) (hxv : ev E x = some u) (hs : Slc I sz u xs) (hh : ev E hx = some (.int kd h)) (hb : 0 ≤ h ∧ h ≤ xs.length)
   (k : TL qm P ops Q rest n D ((d,jp u 0 h.toNat sz) :: E) S) : TL qm P ops Q (⟨some d,.slice t x none (some hx) none,ty,pos,aft,g⟩ :: rest) n D E S := by
 have hcap : ∃ A cap,u = .slice A xs.length cap ∧ xs.length ≤ cap := by
   rcases hs.shape with ⟨A,h1,h2⟩ | ⟨b,off,cap,h1,h2⟩
   · subst h2; exact ⟨A,0,h1,Nat.le_refl _⟩
   · exact ⟨_,cap,h1,h2⟩
 obtain ⟨A,cap,hv,hc⟩ := hcap
 have hel : P.underlying t = some (.slice (P.elem t)) := by rw [hu]; simp [Program.elem,hu]
 have hel2 : P.elem t = e := by simp [Program.elem,hu]
 refine o_rd hg hd (v := jp u 0 h.toNat sz) (fun a w ha hw d pos aft g => ⟨w,?_,rfl⟩) k
 have hx' : a.eval x = .slice A xs.length cap := by rw [ha.ev hxv]; exact hv
 have hr := run_slice_h (P := P) w t A xs.length cap hel kd h hb.1 (by omega)
 rw [hel2,hsz] at hr
 simp only [execOp,Sem.run_bind,Sem.run_pure,Option.map_none,Option.map_some,hx',ha.ev hh,run_sliceAt_slice w t _ _ _ _ hel,hr,Result.andThen_ok,hv,jp]
theorem qtx {qm : Bool} {x lx : Operand} {t e : TypeId} {sz : Nat} {u : Value} {xs : List (List Value)} {kd : IntKind} {l : Int} (hg : qi ops E g) (hd : Nat.blt d n = true) (hu : P.underlying t = some (.slice e)) (hsz : ∀ w, (sizeOf e).run P w = .ok sz w) (hxv : ev E x = some u) (hs : Slc I sz u xs) (hh : ev E lx = some (.int kd l)) (hb : 0 ≤ l ∧ l ≤ xs.length)
   (k : TL qm P ops Q rest n D ((d,jp u l.toNat xs.length sz) :: E) S) : TL qm P ops Q (⟨some d,.slice t x (some lx) none none,ty,pos,aft,g⟩ :: rest) n D E S := by
 obtain ⟨A,cap,hv⟩ := hs.len
 have hel : P.underlying t = some (.slice (P.elem t)) := by rw [hu]; simp [Program.elem,hu]
 have hel2 : P.elem t = e := by simp [Program.elem,hu]
 refine o_rd hg hd (v := jp u l.toNat xs.length sz) (fun a w ha hw d pos aft g => ⟨w,?_,rfl⟩) k
 have hx' : a.eval x = .slice A xs.length cap := by rw [ha.ev hxv]; exact hv
 have hr := run_slice_l (P := P) w t A xs.length cap hel kd l hb.1 (by omega)
 rw [hel2,hsz] at hr
 simp only [execOp,Sem.run_bind,Sem.run_pure,Option.map_none,Option.map_some,hx',ha.ev hh,run_sliceAt_slice w t _ _ _ _ hel,hr,Result.andThen_ok,hv,jp]
theorem qml {qm : Bool} {x lx hx : Operand} {t e : TypeId} {sz : Nat} {u : Value} {xs : List (List Value)} {kd ke : IntKind} {l h : Int} (hg : qi ops E g) (hd : Nat.blt d n = true) (hu : P.underlying t = some (.slice e)) (hsz : ∀ w, (sizeOf e).run P w = .ok sz w) (hxv : ev E x = some u) (hs : Slc I sz u xs) (hl : ev E lx = some (.int kd l)) (hh : ev E hx = some (.int ke h)) (hb : 0 ≤ l ∧ l ≤ h ∧ h ≤ xs.length)
   (k : TL qm P ops Q rest n D ((d,jp u l.toNat h.toNat sz) :: E) S) : TL qm P ops Q (⟨some d,.slice t x (some lx) (some hx) none,ty,pos,aft,g⟩ :: rest) n D E S := by
 have hcap : ∃ A cap,u = .slice A xs.length cap ∧ xs.length ≤ cap := by
   rcases hs.shape with ⟨A,h1,h2⟩ | ⟨b,off,cap,h1,h2⟩
   · subst h2; exact ⟨A,0,h1,Nat.le_refl _⟩
   · exact ⟨_,cap,h1,h2⟩
 obtain ⟨A,cap,hv,hc⟩ := hcap
 have hel : P.underlying t = some (.slice (P.elem t)) := by rw [hu]; simp [Program.elem,hu]
 have hel2 : P.elem t = e := by simp [Program.elem,hu]
 refine o_rd hg hd (v := jp u l.toNat h.toNat sz) (fun a w ha hw d pos aft g => ⟨w,?_,rfl⟩) k
 have hx' : a.eval x = .slice A xs.length cap := by rw [ha.ev hxv]; exact hv
 have hr := run_slice_lh (P := P) w t A xs.length cap hel kd ke l h hb.1 hb.2.1 (by omega)
 rw [hel2,hsz] at hr
 simp only [execOp,Sem.run_bind,Sem.run_pure,Option.map_none,Option.map_some,hx',ha.ev hh,ha.ev hl,run_sliceAt_slice w t _ _ _ _ hel,hr,Result.andThen_ok,hv,jp]
theorem qaw {t e : TypeId} {sz : Nat} (hg : qi ops E g) (hd : Nat.blt d n = true) (hu : P.underlying t = some (.slice e)) (hsz : ∀ w, (sizeOf e).run P w = .ok sz w)
   (k : ∀ v',TL false P ops Q rest n D ((d,v') :: E) (St w0 X I (.row v' e sz 0 [] :: B))) : TL false P ops Q (⟨some d,.buildSlice t 0 #[],ty,pos,aft,g⟩ :: rest) n D E (St w0 X I B) :=
 qas (ι := Value) (V := fun v' => v') (SX := fun v' => St w0 X I (.row v' e sz 0 [] :: B)) (F := fun _ => True) hg hd
   (fun a w ha hw d pos aft g => ⟨w.alloc (.cells #[] e (0, 0)), .slice (some ⟨w.heap.size, 0, none⟩) 0 0, by
     have h1 : ¬ 0 * sz > 2 ^ 24 := by omega
     have h2 : 0 * sz = 0 := by omega
     simp only [execOp,Instr.buildSlice,run_underlying hu,Sem.run_bind,hsz,Result.andThen_ok,Sem.run_ite,if_neg h1,if_pos h2,Sem.run_pure,Nat.zero_mul,Array.range_zero',List.map_toArray,Array.map_empty,Instr.fill,newRow,run_newObj]
     rfl,
     hw.new (But.alloc w _) ⟨by simp,.inr ⟨w.heap.size,0,#[],rfl,Nat.zero_le _,heap_alloc_new w _,Nat.le_refl _,Nat.zero_le _,by simp,by simp⟩⟩ (fun b hb => by cases hb; exact Nat.le_refl _),trivial⟩) (fun v _ => k v)
theorem qiu {t e : TypeId} {size bytes : Nat} {zs : List Value} {lx cx : Operand} {kl kc : IntKind} {m : Int} (hg : qi ops E g) (hd : Nat.blt d n = true) (hu : P.underlying t = some (.slice e)) (he : qc3 P e size bytes zs) (hl : ev E lx = some (.int kl m)) (hc : ev E cx = some (.int kc m)) (h0 : 0 ≤ m) (hby : bytes * m.toNat ≤ 281474976710656) (hmax : m.toNat ≤ maxLen)
   (k : ∀ v',TL false P ops Q rest n D ((d,v') :: E) (St w0 X I (.row v' e size m.toNat (madeCells zs.toArray (m.toNat * size)).toList :: B))) : TL false P ops Q (⟨some d,.makeSlice t lx cx,ty,pos,aft,g⟩ :: rest) n D E (St w0 X I B) :=
 qas (ι := Value) (V := fun v' => v') (SX := fun v' => St w0 X I (.row v' e size m.toNat (madeCells zs.toArray (m.toNat * size)).toList :: B)) (F := fun _ => True) hg hd
   (fun a w ha hw d pos aft g => by
     obtain ⟨i,z,h2,h3,h4,h5,h6,h7⟩ := he
     obtain ⟨w',hr,hown,hgr⟩ := run_make_full (P := P) w 0 t e i z size hu h2 h3 h4 kl kc m.toNat (by rw [h5]; exact hby) hmax (Nat.zero_le _)
     rw [show ((m.toNat : Nat) : Int) = m by omega] at hr
     refine ⟨w',.slice (some ⟨w.heap.size,0,none⟩) m.toNat m.toNat,?_,hw.new (But.of_grown hgr) (by rw [← h6]; exact hown) (fun b hb => by cases hb; exact Nat.le_refl _),trivial⟩
     simp only [execOp,ha.ev hl,ha.ev hc,Sem.run_bind,Sem.run_pure,hr,Result.andThen_ok]) (fun v _ => k v)
theorem qiv {w : World} {e : TypeId} {size nn : Nat} {u : Value} {xs : List Value} (h : w.ownsRow 0 e size u nn xs) (hp : 0 < nn) : ∃ cap,u = .slice (some ⟨slcB u,0,none⟩) nn cap := by
 rcases h.2 with ⟨_,h2⟩ | ⟨gg,cap,cur,rfl,_⟩
 · omega
 · exact ⟨cap,rfl⟩
theorem yp {qm : Bool} {x ix : Operand} {t e T : TypeId} {sz nn : Nat} {u : Value} {xs : List Value} {kd : IntKind} {i : Int} (hg : qi ops E g) (hd : Nat.blt d n = true) (hu : P.underlying t = some (.slice e)) (hsz : ∀ w, (sizeOf e).run P w = .ok sz w) (hx : ev E x = some u) (hB : Item.row u T sz nn xs ∈ B) (hi : ev E ix = some (.int kd i)) (h : 0 ≤ i ∧ i < nn)
   (k : TL qm P ops Q rest n D ((d,.pointer (some ⟨slcB u,i.toNat * sz,none⟩)) :: E) (St w0 X I B)) : TL qm P ops Q (⟨some d,.indexAddr t x ix,ty,pos,aft,g⟩ :: rest) n D E (St w0 X I B) :=
 o_rd hg hd (v := .pointer (some ⟨slcB u, i.toNat * sz, none⟩)) (fun a w ha hw d pos aft g => ⟨w, by
   obtain ⟨cap,hv⟩ := qiv (hw.own _ hB) (by omega)
   have hx' : a.eval x = .slice (some ⟨slcB u,0,none⟩) nn cap := by rw [ha.ev hx]; exact hv
   have hh : (0 ≤ i ∧ i < (nn : Int)) := h
   simp only [execOp,hx',ha.ev hi,Instr.indexAt,asIntOf,Sem.run_bind,Sem.run_pure,run_underlying hu,Result.andThen_ok,hsz,Sem.run_ite,if_pos hh,add_none,Nat.zero_add],rfl⟩) k
theorem qgs {T Tb : TypeId} {p x : Operand} {off sz size nn : Nat} {u : Value} {xs vs xs' : List Value} {B' : List Item} (hg : qi ops E g) (hp : ev E p = some (.pointer (some ⟨slcB u, off, none⟩))) (hx : ev E x = some v) (hc : v.cells = vs.toArray) (hsz : ∀ w, (sizeOf T).run P w = .ok sz w) (hl : vs.length = sz) (h1 : jo vs = true)
   (hB : Put B (.row u Tb size nn xs) B' (.row u Tb size nn xs'))
   (hpos : 0 < sz) (hoff : off + sz ≤ nn * size) (hxs : xs' = xs.take off ++ vs ++ xs.drop (off + sz))
   (k : TL false P ops Q rest n D E (St w0 X I B')) : TL false P ops Q (⟨none,.store T p x,ty,pos,aft,g⟩ :: rest) n D E (St w0 X I B) :=
 qgm hg (S' := St w0 X I B') (fun a w ha hS d pos aft g => by
   have hown : w.ownsRow 0 Tb size u nn xs := hS.own _ hB.mem
   have hnn : nn ≠ 0 := fun e => by subst e; omega
   rcases hown.2 with ⟨_,h2⟩ | ⟨gg,cap,cur,rfl,hb0,hgg,hnc,hcm,hcs,htake⟩
   · exact absurd h2 hnn
   have hle : nn * size ≤ cap * size := Nat.mul_le_mul_right _ hnc
   have hst := run_storeCells_at P gg off Tb vs 0 cur w hgg (by omega) (qd0 h1)
   simp only [Nat.add_zero] at hst
   have hlen : xs.length = nn * size := hown.1
   have hct : cur.toList.take off = xs.take off := by rw [← htake,List.take_take,Nat.min_eq_left (by omega)]
   have hnew : (cur.toList.take off ++ vs ++ cur.toList.drop (off + vs.length)).take (nn * size) = xs' := by
     have hal : (xs.take off ++ vs).length = off + sz := by simp; omega
     rw [hxs,hct,hl,List.take_append,hal,List.take_of_length_le (by omega),← htake,List.drop_take]
   have hnl : xs'.length = nn * size := by rw [hxs]; simp; omega
   refine ⟨_, ?_, hS.turn hB (w' := w.setRow gg _) ⟨rfl, rfl, rfl, by simp [World.setRow], fun k hk hne => setRow_other w gg k _ (fun e => hne (by rw [e]; rfl))⟩
     ⟨hnl,.inr ⟨gg,cap,_,rfl,hb0,setRow_heap w gg cur (cur.toList.take off ++ vs ++ cur.toList.drop (off + vs.length)).toArray Tb (0,0) hgg,hnc,hcm,by simp; omega,by simpa using hnew⟩⟩ (fun _ h => .inl h)⟩
   have hv : v.cells.toList = vs := by rw [hc]
   have hs' : ¬ (v.cells.size ≠ sz) := by rw [hc]; simp [hl]
   simp only [slcB] at hp
   simp only [execOp,ha.ev hp,ha.ev hx,Instr.storeAt,Instr.sureAddr,storeVar,Sem.run_bind,Sem.run_pure,Result.andThen_ok,hsz,hv,if_neg hs',hst]) k
theorem qgt {w : World} {e : TypeId} {size nn : Nat} {u : Value} {xs : List Value} (h : w.ownsRow 0 e size u nn xs) {j : Nat} {y : Value} (hj : xs[j]? = some y) : w.cell? ⟨slcB u,j,none⟩ = some y := by
 have hlt := (List.getElem?_eq_some_iff.1 hj).1
 rw [h.1] at hlt
 have hnn : nn ≠ 0 := fun e => by subst e; omega
 rcases h.2 with ⟨_,h2⟩ | ⟨gg,cap,cur,rfl,_⟩
 · exact absurd h2 hnn
 · rw [show slcB (.slice (some ⟨gg,0,none⟩) nn cap) = gg from rfl,h.cellAt j hlt,hj]
theorem jl {qm : Bool} {T Tb : TypeId} {p : Operand} {off size nn : Nat} {u : Value} {xs : List Value} (hg : qi ops E g) (hd : Nat.blt d n = true) (hagg : ∀ w, (isAgg T).run P w = .ok false w) (hB : Item.row u Tb size nn xs ∈ B) (hp : ev E p = some (.pointer (some ⟨slcB u, off, none⟩))) (hr : xs[off]? = some v)
   (k : TL qm P ops Q rest n D ((d,v) :: E) (St w0 X I B)) : TL qm P ops Q (⟨some d,.load T p,ty,pos,aft,g⟩ :: rest) n D E (St w0 X I B) :=
 o_rd hg hd (v := v) (fun a w ha hw d pos aft g => ⟨w, by
   have hcell : w.cell? ⟨slcB u,off,none⟩ = some v := qgt (hw.own _ hB) hr
   simp [execOp,ha.ev hp,Instr.loadAt,Instr.sureAddr,loadVar,hagg,hcell,Result.andThen],rfl⟩) k
theorem zp {qm : Bool} {T Tb : TypeId} {p : Operand} {off size nn sz : Nat} {u : Value} {xs cs : List Value} (hg : qi ops E g) (hd : Nat.blt d n = true) (hagg : ∀ w, (isAgg T).run P w = .ok true w) (hsz : ∀ w, (sizeOf T).run P w = .ok sz w) (hB : Item.row u Tb size nn xs ∈ B) (hp : ev E p = some (.pointer (some ⟨slcB u, off, none⟩))) (hl : cs.length = sz) (hr : ∀ k y, cs[k]? = some y → xs[off + k]? = some y)
   (k : TL qm P ops Q rest n D ((d,.agg cs.toArray) :: E) (St w0 X I B)) : TL qm P ops Q (⟨some d,.load T p,ty,pos,aft,g⟩ :: rest) n D E (St w0 X I B) :=
 o_rd hg hd (v := .agg cs.toArray) (fun a w ha hw d pos aft g => ⟨w, by
   have h := run_loadCells_list (P := P) w ⟨slcB u,off,none⟩ cs (fun j y hj => by rw [add_none]; exact qgt (hw.own _ hB) (hr j y hj))
   rw [hl] at h
   simp [execOp,ha.ev hp,Instr.loadAt,Instr.sureAddr,loadVar,hagg,hsz,h,Result.andThen],rfl⟩) k
theorem qfg {sl x : Operand} {t e : TypeId} {size bytes nn : Nat} {u ux : Value} {xs : List Value} {yss : List (List Value)} {B' : Value → List Item} (hg : qi ops E g) (hd : Nat.blt d n = true) (hu : P.underlying t = some (.slice e)) (he : zo P e size bytes) (hpos : 0 < size)
   (hsl : ev E sl = some u) (hx : ev E x = some ux) (hput : ∀ v',Put B (.row u e size nn xs) (B' v') (.row v' e size (nn + yss.length) (xs ++ yss.flatten))) (hs : Slc I size ux yss) (h1 : ∀ c ∈ yss,jo c = true)
   (hmax : nn + yss.length ≤ maxLen) (hby : (nn + yss.length) * bytes ≤ 140737488355328)
   (k : ∀ v',TL false P ops Q rest n D ((d,v') :: E) (St w0 X I (B' v'))) : TL false P ops Q (⟨some d,.call { callee := .builtin .append,args := #[sl,x],argTypes := #[t,t] },ty,pos,aft,g⟩ :: rest) n D E (St w0 X I B) :=
 qas (ι := Value) (V := fun v' => v') (SX := fun v' => St w0 X I (B' v')) (F := fun _ => True) hg hd
   (fun a w ha hw d pos aft g => by
     obtain ⟨i,z,h2,h3,h4,h5,h6⟩ := he
     have hown : w.ownsRow 0 e size u nn xs := hw.own _ (hput u).mem
     rcases hs.shape with ⟨A,hv,hy⟩ | ⟨b,off,cap,hv,hc⟩
     · subst hy
       cases A with
       | none =>
         have hr := run_append_owned_none (P := P) w 0 t ty e i size hu h2 u nn xs hown
         refine ⟨w,u,?_,hw.turn (hput u) (But.refl _ _) (by show w.ownsRow 0 e size u _ _; simpa using hown) (fun b hb => .inl hb),trivial⟩
         simp only [execOp,resolve,List.map_toArray,List.map_cons,List.map_nil,ha.ev hsl,ha.ev hx,hv,Sem.run_bind,Sem.run_pure,Result.andThen_ok,invoke,builtin,hr]
       | some A =>
         obtain ⟨v',w',hr,hown',hgr,_,hkey⟩ := run_append_own_at (P := P) w 0 t ty e i z size bytes hu h2 h3 h4 h5 h6 hpos u nn xs hown A 0 0 [] (by simp) (fun j y hj => by simp at hj) (fun y hy => by cases hy) hmax hby (Nat.zero_le _)
         refine ⟨w',v',?_,hw.turn (hput v') (But.of_grown hgr) hown' (fun k hk => ?_),trivial⟩
         · simp only [execOp,resolve,List.map_toArray,List.map_cons,List.map_nil,ha.ev hsl,ha.ev hx,hv,Sem.run_bind,Sem.run_pure,Result.andThen_ok,invoke,builtin,hr]
         · change v'.ownBlock = some k at hk
           rcases hkey with e1 | e1
           · exact .inl (by rw [← hk,e1]; rfl)
           · rw [e1] at hk; cases hk; exact .inr (Nat.le_refl _)
     · have hfl : yss.flatten.length = yss.length * size := flat_len hs.lens
       have hnews : ∀ j y, yss.flatten[j]? = some y → w.cell? ((⟨b, off, none⟩ : Addr).add j) = some y := fun j y hj => by
         rw [add_none]
         obtain ⟨q,c,k,hq,hk,hjk⟩ := flat_at hs.lens hpos hj
         have := hs.cells q c hq k y hk
         rw [hv] at this
         simp only [slcB,slcO] at this
         rw [hjk,← Nat.add_assoc]
         exact Hp.In.cell hw.imm this
       have hp1 : ∀ y ∈ yss.flatten, y.oneCell' = true := fun y hy => by
         obtain ⟨c,hc,hyc⟩ := List.mem_flatten.1 hy
         exact qd0 (h1 c hc) y hyc
       obtain ⟨v',w',hr,hown',hgr,_,hkey⟩ := run_append_own_at (P := P) w 0 t ty e i z size bytes hu h2 h3 h4 h5 h6 hpos u nn xs hown ⟨b,off,none⟩ yss.length cap yss.flatten hfl hnews hp1 hmax hby (Nat.zero_le _)
       refine ⟨w',v',?_,hw.turn (hput v') (But.of_grown hgr) hown' (fun k hk => ?_),trivial⟩
       · simp only [execOp,resolve,List.map_toArray,List.map_cons,List.map_nil,ha.ev hsl,ha.ev hx,hv,Sem.run_bind,Sem.run_pure,Result.andThen_ok,invoke,builtin,hr]
       · change v'.ownBlock = some k at hk
         rcases hkey with e1 | e1
         · exact .inl (by rw [← hk,e1]; rfl)
         · rw [e1] at hk; cases hk; exact .inr (Nat.le_refl _)) (fun v' _ => k v')
where
 flat_len {size : Nat} : ∀ {yss : List (List Value)}, (∀ c ∈ yss, c.length = size) → yss.flatten.length = yss.length * size
   | [],_ => by simp
   | c :: r, h => by
     rw [List.flatten_cons,List.length_append,h c List.mem_cons_self,flat_len (fun x hx => h x (List.mem_cons_of_mem _ hx)),List.length_cons,Nat.add_mul,Nat.one_mul,Nat.add_comm]
 flat_at {size : Nat} : ∀ {yss : List (List Value)}, (∀ c ∈ yss, c.length = size) → 0 < size → ∀ {j : Nat} {y : Value}, yss.flatten[j]? = some y → ∃ q c k, yss[q]? = some c ∧ c[k]? = some y ∧ j = q * size + k
   | [],_,_,j,y,hj => by simp at hj
   | c :: r, h, hp, j, y, hj => by
     have hc := h c List.mem_cons_self
     rw [List.flatten_cons,List.getElem?_append] at hj
     split at hj
     · exact ⟨0,c,j,rfl,hj,by omega⟩
     · rename_i hge
       obtain ⟨q,c',k,h1,h2,h3⟩ := flat_at (fun x hx => h x (List.mem_cons_of_mem _ hx)) hp hj
       exact ⟨q + 1,c',k,h1,h2,by rw [Nat.add_mul,Nat.one_mul]; omega⟩
theorem qty {x : Operand} {t t2 e : TypeId} {nn : Nat} {u : Value} {ns : List Int} {T : TypeId} (hg : qi ops E g) (hd : Nat.blt d n = true) (hs : P.underlying t = some (.slice e)) (he : P.underlying e = some (.int .u8)) (hd2 : P.underlying t2 = some .string) (hx : ev E x = some u)
   (hB : Item.row u T 1 nn (ns.map (Value.int .u8)) ∈ B) (hp : 0 < nn)
   (k : TL false P ops Q rest n D ((d,.string (zb ns)) :: E) (St w0 X I B)) : TL false P ops Q (⟨some d,.convert t t2 x,ty,pos,aft,g⟩ :: rest) n D E (St w0 X I B) :=
 o_op hg hd (v := .string (zb ns)) (S' := St w0 X I B) (fun a w ha hw d pos aft g => ⟨w, by
   have hown : w.ownsRow 0 T 1 u nn (ns.map (Value.int .u8)) := hw.own _ hB
   obtain ⟨cap,hv⟩ := qiv hown hp
   have hl : ns.length = nn := by have := hown.1; simpa using this
   have hld := run_loadCells_list (P := P) w ⟨slcB u,0,none⟩ (ns.map (Value.int .u8)) (fun j y hj => by rw [add_none,Nat.zero_add]; exact qgt hown hj)
   rw [List.length_map,hl] at hld
   have hstr := run_bytesToString (P := P) w ⟨slcB u,0,none⟩ nn cap ns hld
   simp only [execOp,ha.ev hx]
   rw [hv]
   simp only [run_convert_bytes_string w t t2 e _ _ _ hs he hd2,hstr,Result.andThen_ok,qmj,Sem.run_bind,Sem.run_pure],hw⟩) k
end
end Go.Tw
namespace Go.Tw
open Go Go.RowKit
section
variable {P : Program} {Q : Exit → Act → World → Prop} {n : Nat} {D : List Deferred} {E : Env} {S S' : World → Prop} {ops : Array Oper} {rest : List Oper} {d : Nat} {op : Op} {ty : TypeId} {pos : String} {aft : Array Edge} {g : Option (Nat × Bool)} {v : Value} {w0 : World} {X : List Nat} {I : Hp} {B : List Item}
theorem yt {qm : Bool} {x ix : Operand} {t e : TypeId} {sz b off l c : Nat} {kd : IntKind} {i : Int} (hg : qi ops E g) (hd : Nat.blt d n = true) (hu : P.underlying t = some (.slice e)) (hsz : ∀ w, (sizeOf e).run P w = .ok sz w) (hx : ev E x = some (.slice (some ⟨b, off, none⟩) l c)) (hi : ev E ix = some (.int kd i)) (h : 0 ≤ i ∧ i < l)
   (k : TL qm P ops Q rest n D ((d,.pointer (some ⟨b,off + i.toNat * sz,none⟩)) :: E) S) : TL qm P ops Q (⟨some d,.indexAddr t x ix,ty,pos,aft,g⟩ :: rest) n D E S :=
 o_rd hg hd (v := .pointer (some ⟨b, off + i.toNat * sz, none⟩)) (fun a w ha hw d pos aft g => ⟨w, by
   have hh : (0 ≤ i ∧ i < (l : Int)) := h
   simp only [execOp,ha.ev hx,ha.ev hi,Instr.indexAt,asIntOf,Sem.run_bind,Sem.run_pure,run_underlying hu,Result.andThen_ok,hsz,Sem.run_ite,if_pos hh,add_none],rfl⟩) k
theorem qtz {T Tb : TypeId} {p x : Operand} {b off sz : Nat} {cs vs cs' : List Value} {B' : List Item} (hg : qi ops E g) (hp : ev E p = some (.pointer (some ⟨b, off, none⟩))) (hx : ev E x = some v) (hc : v.cells = vs.toArray) (hsz : ∀ w, (sizeOf T).run P w = .ok sz w) (hl : vs.length = sz) (h1 : jo vs = true)
   (hB : Put B (.box b (.cells cs.toArray Tb (0,0))) B' (.box b (.cells cs'.toArray Tb (0,0)))) (hoff : off + sz ≤ cs.length) (hcs : cs' = cs.take off ++ vs ++ cs.drop (off + sz))
   (k : TL false P ops Q rest n D E (St w0 X I B')) : TL false P ops Q (⟨none,.store T p x,ty,pos,aft,g⟩ :: rest) n D E (St w0 X I B) :=
 qgm hg (S' := St w0 X I B') (fun a w ha hS d pos aft g => by
   have hbox : w.heap[b]? = some (.cells cs.toArray Tb (0,0)) := hS.own _ hB.mem
   have hst := run_storeCells_at P b off Tb vs 0 cs.toArray w hbox (by simp only [List.size_toArray]; omega) (qd0 h1)
   simp only [Nat.add_zero] at hst
   refine ⟨_, ?_, hS.turn hB (w' := w.setRow b _) ⟨rfl, rfl, rfl, by simp [World.setRow], fun k hk hne => setRow_other w b k _ (fun e => hne (by rw [e]; rfl))⟩ (by
     show (w.setRow b (cs.toArray.toList.take off ++ vs ++ cs.toArray.toList.drop (off + vs.length)).toArray).heap[b]? = _
     rw [setRow_heap w b cs.toArray _ Tb (0,0) hbox,hcs,hl]) (fun _ h => .inl h)⟩
   have hv : v.cells.toList = vs := by rw [hc]
   have hs' : ¬ (v.cells.size ≠ sz) := by rw [hc]; simp [hl]
   simp only [execOp,ha.ev hp,ha.ev hx,Instr.storeAt,Instr.sureAddr,storeVar,Sem.run_bind,Sem.run_pure,Result.andThen_ok,hsz,hv,if_neg hs',hst]) k
theorem qfh {cs : List Value} {i : Nat} {y : Value} (h : i < cs.length) : cs.set i y = cs.take i ++ [y] ++ cs.drop (i + 1) := by
 rw [List.set_eq_take_append_cons_drop,if_pos h,List.append_assoc]; rfl
theorem qz {T Tb : TypeId} {p x : Operand} {b off : Nat} {cs : List Value} {B' : List Item} (hg : qi ops E g) (hp : ev E p = some (.pointer (some ⟨b, off, none⟩))) (hx : ev E x = some v) (hc : v.cells = #[v]) (hsz : ∀ w, (sizeOf T).run P w = .ok 1 w) (h1 : v.oneCell' = true)
   (hB : Put B (.box b (.cells cs.toArray Tb (0,0))) B' (.box b (.cells (cs.set off v).toArray Tb (0,0)))) (hoff : off < cs.length)
   (k : TL false P ops Q rest n D E (St w0 X I B')) : TL false P ops Q (⟨none,.store T p x,ty,pos,aft,g⟩ :: rest) n D E (St w0 X I B) :=
 qtz (vs := [v]) hg hp hx hc hsz rfl (by simp [jo,h1]) hB (by omega) (qfh hoff) k
theorem qax {qm : Bool} {T Tb : TypeId} {p : Operand} {b off : Nat} {cs : List Value} {fz : Nat × Nat} (hg : qi ops E g) (hd : Nat.blt d n = true) (hagg : ∀ w, (isAgg T).run P w = .ok false w) (hp : ev E p = some (.pointer (some ⟨b, off, none⟩))) (hB : Item.box b (.cells cs.toArray Tb fz) ∈ B) (hr : cs[off]? = some v)
   (k : TL qm P ops Q rest n D ((d,v) :: E) (St w0 X I B)) : TL qm P ops Q (⟨some d,.load T p,ty,pos,aft,g⟩ :: rest) n D E (St w0 X I B) :=
 o_rd hg hd (v := v) (fun a w ha hw d pos aft g => ⟨w, by
   have hbox : w.heap[b]? = some (.cells cs.toArray Tb fz) := hw.own _ hB
   have hcell : w.cell? ⟨b,off,none⟩ = some v := by simp [World.cell?,hbox,hr]
   simp [execOp,ha.ev hp,Instr.loadAt,Instr.sureAddr,loadVar,hagg,hcell,Result.andThen],rfl⟩) k
theorem qbu {t e : TypeId} {size bytes : Nat} {zs : List Value} {lx cx : Operand} {kl kc : IntKind} {m : Int} (hg : qi ops E g) (hd : Nat.blt d n = true) (hu : P.underlying t = some (.slice e)) (he : qc3 P e size bytes zs) (hl : ev E lx = some (.int kl m)) (hc : ev E cx = some (.int kc m)) (h0 : 0 ≤ m) (hby : bytes * m.toNat ≤ 281474976710656) (hmax : m.toNat ≤ maxLen)
   (k : ∀ b,TL false P ops Q rest n D ((d,.slice (some ⟨b,0,none⟩) m.toNat m.toNat) :: E) (St w0 X I (.box b (.cells (madeCells zs.toArray (m.toNat * size)).toList.toArray e (0,0)) :: B))) : TL false P ops Q (⟨some d,.makeSlice t lx cx,ty,pos,aft,g⟩ :: rest) n D E (St w0 X I B) :=
 qas (ι := Nat) (V := fun b => .slice (some ⟨b, 0, none⟩) m.toNat m.toNat) (SX := fun b => St w0 X I (.box b (.cells (madeCells zs.toArray (m.toNat * size)).toList.toArray e (0, 0)) :: B)) (F := fun _ => True) hg hd
   (fun a w ha hw d pos aft g => by
     obtain ⟨i,z,h2,h3,h4,h5,h6,h7⟩ := he
     have hb' : (i.bytes : Int) * m ≤ 281474976710656 := by
       have h : ((i.bytes * m.toNat : Nat) : Int) ≤ 281474976710656 := by rw [h5]; omega
       rw [Int.natCast_mul,Int.toNat_of_nonneg h0] at h
       exact h
     have hmax' : m ≤ 9223372036854775807 := by unfold maxLen at hmax; omega
     have hr := run_make (P := P) w t e i z hu h2 h3 kl kc m m h0 (Int.le_refl _) hb' hmax'
     rw [h4,h6] at hr
     refine ⟨_,w.heap.size,?_,hw.new (But.alloc w (.cells (madeCells zs.toArray (m.toNat * size)).toList.toArray e (0,0))) (heap_alloc_new w _) (fun b hb => by cases hb; exact Nat.le_refl _),trivial⟩
     simp only [execOp,ha.ev hl,ha.ev hc,Sem.run_bind,Sem.run_pure,hr,Result.andThen_ok,Array.toArray_toList]) (fun b _ => k b)
theorem qt0 {qm : Bool} {x lx hx mx : Operand} {t e : TypeId} {sz b off len cap : Nat} {kl kh km : IntKind} {l h m : Int} (hg : qi ops E g) (hd : Nat.blt d n = true) (hu : P.underlying t = some (.slice e)) (hsz : ∀ w, (sizeOf e).run P w = .ok sz w) (hxv : ev E x = some (.slice (some ⟨b, off, none⟩) len cap)) (hl : ev E lx = some (.int kl l)) (hh : ev E hx = some (.int kh h)) (hm : ev E mx = some (.int km m)) (hb : 0 ≤ l ∧ l ≤ h ∧ h ≤ m ∧ m ≤ cap ∧ l < m)
   (k : TL qm P ops Q rest n D ((d,.slice (some ⟨b,off + l.toNat * sz,none⟩) (h.toNat - l.toNat) (m.toNat - l.toNat)) :: E) S) : TL qm P ops Q (⟨some d,.slice t x (some lx) (some hx) (some mx),ty,pos,aft,g⟩ :: rest) n D E S := by
 have hel : P.underlying t = some (.slice (P.elem t)) := by rw [hu]; simp [Program.elem,hu]
 have hel2 : P.elem t = e := by simp [Program.elem,hu]
 refine o_rd hg hd (v := .slice (some ⟨b,off + l.toNat * sz,none⟩) (h.toNat - l.toNat) (m.toNat - l.toNat)) (fun a w ha hw d pos aft g => ⟨w,?_,rfl⟩) k
 have hr := run_slice_lhm (P := P) w t (some ⟨b,off,none⟩) len cap hel kl kh km l h m hb.1 hb.2.1 hb.2.2.1 hb.2.2.2.1
 rw [hel2,hsz] at hr
 have hne : ¬ m.toNat = l.toNat := by omega
 simp only [execOp,Sem.run_bind,Sem.run_pure,Option.map_none,Option.map_some,ha.ev hxv,ha.ev hh,ha.ev hl,ha.ev hm,run_sliceAt_slice w t _ _ _ _ hel,hr,Result.andThen_ok,sliced,if_neg hne,add_none]
theorem qbf {qm : Bool} {x y : Operand} {t t2 : TypeId} {kd : IntKind} {p q : Int} (hg : qi ops E g) (hd : Nat.blt d n = true) (hx : ev E x = some (.int kd p)) (hy : ev E y = some (.int kd q)) (hb : kd.wrap (p + q) = p + q)
   (k : TL qm P ops Q rest n D ((d,.int kd (p + q)) :: E) S) : TL qm P ops Q (⟨some d,.binOp .add t x y t2,ty,pos,aft,g⟩ :: rest) n D E S :=
 o_rd hg hd (v := .int kd (p + q)) (qak (by simp only [pv,hx,hy,qat,qb8]; cases kd <;> (simp only [qat]; rw [hb]))) k
theorem qgu {qm : Bool} {x y : Operand} {t t2 : TypeId} {kd : IntKind} {p q : Int} (hg : qi ops E g) (hd : Nat.blt d n = true) (hx : ev E x = some (.int kd p)) (hy : ev E y = some (.int kd q)) (hb : kd.wrap (p - q) = p - q)
   (k : TL qm P ops Q rest n D ((d,.int kd (p - q)) :: E) S) : TL qm P ops Q (⟨some d,.binOp .sub t x y t2,ty,pos,aft,g⟩ :: rest) n D E S :=
 o_rd hg hd (v := .int kd (p - q)) (qak (by simp only [pv,hx,hy,qat,qb8]; cases kd <;> (simp only [qat]; rw [hb]))) k
theorem qmm {qm : Bool} {x y : Operand} {t t2 : TypeId} {kd : IntKind} {p q : Int} (hg : qi ops E g) (hd : Nat.blt d n = true) (hx : ev E x = some (.int kd p)) (hy : ev E y = some (.int kd q)) (hb : kd.wrap (p * q) = p * q)
   (k : TL qm P ops Q rest n D ((d,.int kd (p * q)) :: E) S) : TL qm P ops Q (⟨some d,.binOp .mul t x y t2,ty,pos,aft,g⟩ :: rest) n D E S :=
 o_rd hg hd (v := .int kd (p * q)) (qak (by simp only [pv,hx,hy,qat,qb8]; cases kd <;> (simp only [qat]; rw [hb]))) k
theorem zq {qm : Bool} {x y : Operand} {ats : Array TypeId} {kd : IntKind} {p q : Int} (hg : qi ops E g) (hd : Nat.blt d n = true) (hx : ev E x = some (.int kd p)) (hy : ev E y = some (.int kd q))
   (k : TL qm P ops Q rest n D ((d,.int kd (max p q)) :: E) S) : TL qm P ops Q (⟨some d,.call { callee := .builtin .max,args := #[x,y],argTypes := ats },ty,pos,aft,g⟩ :: rest) n D E S :=
 o_rd hg hd (v := .int kd (max p q)) (fun a w ha hw d pos aft g => ⟨w, by
   simp [execOp,resolve,ha.ev hx,ha.ev hy,invoke,builtin,Builtin.max_,Builtin.max2,Result.andThen]; split <;> omega,rfl⟩) k
theorem qgv {qm : Bool} {x y : Operand} {ats : Array TypeId} {kd : IntKind} {p q : Int} (hg : qi ops E g) (hd : Nat.blt d n = true) (hx : ev E x = some (.int kd p)) (hy : ev E y = some (.int kd q))
   (k : TL qm P ops Q rest n D ((d,.int kd (min p q)) :: E) S) : TL qm P ops Q (⟨some d,.call { callee := .builtin .min,args := #[x,y],argTypes := ats },ty,pos,aft,g⟩ :: rest) n D E S :=
 o_rd hg hd (v := .int kd (min p q)) (fun a w ha hw d pos aft g => ⟨w, by
   simp [execOp,resolve,ha.ev hx,ha.ev hy,invoke,builtin,Builtin.min_,Builtin.min2,Result.andThen]; split <;> omega,rfl⟩) k
theorem qd1 {qm : Bool} {x y : Operand} {t t2 : TypeId} {kd kc : IntKind} {p c : Int} (m : Nat) (hg : qi ops E g) (hd : Nat.blt d n = true) (hx : ev E x = some (.int kd p)) (hy : ev E y = some (.int kc c)) (hc : 0 ≤ c) (hm : 2 ^ min c.toNat kd.bits = m) (hp : 0 ≤ p)
   (k : TL qm P ops Q rest n D ((d,.int kd (p / (m : Int))) :: E) S) : TL qm P ops Q (⟨some d,.binOp .shr t x y t2,ty,pos,aft,g⟩ :: rest) n D E S :=
 o_rd hg hd (v := .int kd (p / (m : Int))) (fun a w ha hw d pos aft g => ⟨w, by
   have h0 : ¬ c < 0 := by omega
   have e : p.fdiv (2 ^ min c.toNat kd.bits) = p / (m : Int) := by
     rw [← hm,Int.fdiv_eq_ediv_of_nonneg _ (by exact Int.le_of_lt (Int.pow_pos (by decide)))]
     congr 1
   simp only [execOp,ha.ev hx,ha.ev hy,Sem.run_bind,qb9,Result.andThen_ok]
   simp only [binOp,Op.shift,Sem.run_ite,if_neg h0,e]
   rfl,rfl⟩) k
theorem qmn {qm : Bool} {x y : Operand} {t t2 : TypeId} {kd kc : IntKind} {p c : Int} (m : Nat) (hg : qi ops E g) (hd : Nat.blt d n = true) (hx : ev E x = some (.int kd p)) (hy : ev E y = some (.int kc c)) (hc : 0 ≤ c) (hm : 2 ^ min c.toNat kd.bits = m) (hp : kd.wrap (p * (m : Int)) = p * (m : Int))
   (k : TL qm P ops Q rest n D ((d,.int kd (p * (m : Int))) :: E) S) : TL qm P ops Q (⟨some d,.binOp .shl t x y t2,ty,pos,aft,g⟩ :: rest) n D E S :=
 o_rd hg hd (v := .int kd (p * (m : Int))) (fun a w ha hw d pos aft g => ⟨w, by
   have h0 : ¬ c < 0 := by omega
   have e : p * 2 ^ min c.toNat kd.bits = p * (m : Int) := by
     rw [← hm]; congr 1
   simp only [execOp,ha.ev hx,ha.ev hy,Sem.run_bind,qb9,Result.andThen_ok]
   simp only [binOp,Op.shift,Sem.run_ite,if_neg h0,e,hp]
   rfl,rfl⟩) k
theorem qt1 {qm : Bool} {x y : Operand} {t t2 : TypeId} {p q : Int} (hg : qi ops E g) (hd : Nat.blt d n = true) (hx : ev E x = some (.int .u64 (p * 4294967296))) (hy : ev E y = some (.int .u64 q)) (hp : 0 ≤ p ∧ p ≤ 4294967295) (hq : 0 ≤ q ∧ q ≤ 4294967295)
   (k : TL qm P ops Q rest n D ((d,.int .u64 (p * 4294967296 + q)) :: E) S) : TL qm P ops Q (⟨some d,.binOp .or t x y t2,ty,pos,aft,g⟩ :: rest) n D E S :=
 o_rd hg hd (v := .int .u64 (p * 4294967296 + q)) (fun a w ha hw d pos aft g => ⟨w, by
   obtain ⟨p',rfl⟩ : ∃ p' : Nat,p = p' := ⟨p.toNat,by omega⟩
   obtain ⟨q',rfl⟩ : ∃ q' : Nat,q = q' := ⟨q.toNat,by omega⟩
   have h := bits_or_u64_nat (p' * 4294967296) q' (by omega) (by omega)
   have e : (p' * 4294967296) ||| q' = p' * 4294967296 + q' := by
     have := Nat.shiftLeft_add_eq_or_of_lt (i := 32) (b := q') (by omega) p'
     rw [Nat.shiftLeft_eq] at this
     exact this.symm
   rw [e] at h
   simp only [execOp,ha.ev hx,ha.ev hy,Sem.run_bind,qb9,Result.andThen_ok]
   rw [binOp_or,intBits_or,show (p' : Int) * 4294967296 = ((p' * 4294967296 : Nat) : Int) by omega,h]
   simp,rfl⟩) k
end
end Go.Tw
namespace Go.Tw
def dg (l : List Nat) (i : Nat) : Nat := l.getD i 0
def pre (l : List Nat) : Nat → Nat
 | 0 => 0
 | i + 1 => pre l i + dg l i * 4294967296 ^ i
def val (l : List Nat) : Nat := pre l l.length
def Wds (l : List Nat) : Prop := ∀ x ∈ l,x < 4294967296
theorem qbg {l : List Nat} {i : Nat} (h : l.length ≤ i) : dg l i = 0 := by unfold dg; rw [List.getD_eq_getElem?_getD,List.getElem?_eq_none h]; rfl
theorem qd2 {l : List Nat} {i : Nat} (h : i < l.length) : dg l i = l[i] := by unfold dg; rw [List.getD_eq_getElem?_getD,List.getElem?_eq_getElem h]; rfl
theorem qiw {l : List Nat} {i : Nat} (h : i < l.length) : l[i]? = some (dg l i) := by rw [qd2 h]; exact List.getElem?_eq_getElem h
theorem yz {l : List Nat} (h : Wds l) (i : Nat) : dg l i < 4294967296 := by
 rcases Nat.lt_or_ge i l.length with h1 | h1
 · rw [qd2 h1]; exact h _ (List.getElem_mem h1)
 · rw [qbg h1]; decide
theorem pow_pos (i : Nat) : 0 < 4294967296 ^ i := Nat.pow_pos (by decide)
theorem pow_succ (i : Nat) : 4294967296 ^ (i + 1) = 4294967296 ^ i * 4294967296 := Nat.pow_succ ..
theorem zj {l : List Nat} : ∀ {i : Nat}, l.length ≤ i → pre l i = val l
 | 0, h => by
   have : l.length = 0 := by omega
   unfold val; rw [this]
 | i + 1, h => by
   rcases Nat.lt_or_ge i l.length with h1 | h1
   · have : l.length = i + 1 := by omega
     unfold val; rw [this]
   · rw [pre,qbg h1,Nat.zero_mul,Nat.add_zero,zj h1]
theorem qay {l : List Nat} (h : Wds l) : ∀ i, pre l i < 4294967296 ^ i
 | 0 => by simp [pre]
 | i + 1 => by
   have ih := qay h i
   have hd := yz h i
   rw [pre,pow_succ]
   have h1 : dg l i * 4294967296 ^ i ≤ (4294967296 - 1) * 4294967296 ^ i := Nat.mul_le_mul_right _ (by omega)
   generalize 4294967296 ^ i = P at *
   omega
theorem y0 {l : List Nat} (h : Wds l) : val l < 4294967296 ^ l.length := qay h _
theorem qgw {l m : List Nat} : ∀ {i : Nat}, (∀ j, j < i → dg l j = dg m j) → pre l i = pre m i
 | 0,_ => rfl
 | i + 1,h => by rw [pre,pre,qgw (fun j hj => h j (by omega)),h i (by omega)]
theorem qcd {l : List Nat} {i x j : Nat} (h : i < l.length) : dg (l.set i x) j = if j = i then x else dg l j := by
 unfold dg
 rw [List.getD_eq_getElem?_getD,List.getD_eq_getElem?_getD,List.getElem?_set]
 by_cases hj : i = j
 · rw [if_pos hj,if_pos hj.symm,if_pos h]; rfl
 · rw [if_neg hj,if_neg (fun e => hj e.symm)]
theorem Wds.set {l : List Nat} (h : Wds l) {i x : Nat} (hx : x < 4294967296) : Wds (l.set i x) := by
 intro y hy
 rcases List.mem_or_eq_of_mem_set hy with h1 | h1
 · exact h y h1
 · omega
theorem qix {l : List Nat} : ∀ {i j : Nat}, i ≤ j → pre l i ≤ pre l j
 | i, 0, h => by have : i = 0 := by omega
                 subst this; exact Nat.le_refl _
 | i, j + 1, h => by
   rcases Nat.lt_or_ge i (j + 1) with h1 | h1
   · have := qix (l := l) (show i ≤ j by omega)
     rw [pre]; omega
   · have : i = j + 1 := by omega
     subst this; exact Nat.le_refl _
theorem qt2 {l : List Nat} (i : Nat) : pre l i ≤ val l := by
 rcases Nat.lt_or_ge i l.length with h | h
 · exact qix (Nat.le_of_lt h)
 · exact Nat.le_of_eq (zj h)
def low (l : List Nat) : Nat → Nat
 | 0 => 0
 | n + 1 => if dg l n = 0 then low l n else n + 1
def lowL (l : List Nat) : Nat := low l l.length
theorem qal (l : List Nat) : ∀ n, low l n ≤ n
 | 0 => Nat.le_refl _
 | n + 1 => by
   unfold low
   have := qal l n
   split <;> omega
theorem qgx {l : List Nat} : ∀ {n : Nat}, 0 < low l n → dg l (low l n - 1) ≠ 0
 | 0,h => by simp [low] at h
 | n + 1, h => by
   unfold low at h ⊢
   by_cases hd : dg l n = 0
   · rw [if_pos hd] at h ⊢; exact qgx h
   · rw [if_neg hd]; exact hd
theorem qbv {l : List Nat} : ∀ {n : Nat}, pre l (low l n) = pre l n
 | 0 => rfl
 | n + 1 => by
   unfold low
   by_cases hd : dg l n = 0
   · rw [if_pos hd,pre,hd,Nat.zero_mul,Nat.add_zero,qbv]
   · rw [if_neg hd]
def natW (n : Nat) : List Nat := if h : n = 0 then [] else n % 4294967296 :: natW (n / 4294967296)
termination_by n
decreasing_by exact Nat.div_lt_self (Nat.pos_of_ne_zero h) (by decide)
theorem yh : natW 0 = [] := by rw [natW]; rfl
theorem qbw {n : Nat} (h : n ≠ 0) : natW n = n % 4294967296 :: natW (n / 4294967296) := by rw [natW,dif_neg h]
theorem qmo (x : Nat) (l : List Nat) : ∀ i, pre (x :: l) (i + 1) = x + 4294967296 * pre l i
 | 0 => by simp [pre,dg]
 | i + 1 => by
   rw [pre,qmo x l i,pre]
   have : dg (x :: l) (i + 1) = dg l i := by unfold dg; simp
   rw [this,pow_succ]
   grind
theorem zr (x : Nat) (l : List Nat) : val (x :: l) = x + 4294967296 * val l := by unfold val; rw [List.length_cons]; exact qmo x l _
theorem qc4 : val [] = 0 := rfl
theorem qb (n : Nat) : val (natW n) = n := by
 induction n using Nat.strongRecOn with
 | _ n ih =>
   by_cases h : n = 0
   · subst h; rw [yh]; rfl
   · rw [qbw h, zr, ih _ (Nat.div_lt_self (Nat.pos_of_ne_zero h) (by decide))]
     have := Nat.div_add_mod n 4294967296
     omega
theorem zc : Wds [] := fun x h => by cases h
theorem jx {x : Nat} {l : List Nat} (hx : x < 4294967296) (h : Wds l) : Wds (x :: l) := fun y hy => by
 rcases List.mem_cons.1 hy with rfl | hy
 · exact hx
 · exact h y hy
theorem j7 (n : Nat) : Wds (natW n) := by
 induction n using Nat.strongRecOn with
 | _ n ih =>
   by_cases h : n = 0
   · subst h; rw [yh]; exact zc
   · rw [qbw h]
     exact jx (Nat.mod_lt _ (by decide)) (ih _ (Nat.div_lt_self (Nat.pos_of_ne_zero h) (by decide)))
theorem jh {n : Nat} : (natW n).length = 0 ↔ n = 0 := by
 constructor
 · intro h
   have e : natW n = [] := List.length_eq_zero_iff.1 h
   have := qb n
   rw [e] at this
   exact this.symm
 · intro h; subst h; rw [yh]; rfl
theorem zt {n k : Nat} (h : n < 4294967296 ^ k) : (natW n).length ≤ k := by
 induction k generalizing n with
 | zero =>
   have : n = 0 := by simpa using h
   subst this; rw [yh]; exact Nat.le_refl _
 | succ k ih =>
   by_cases h0 : n = 0
   · subst h0; rw [yh]; exact Nat.zero_le _
   · rw [qbw h0, List.length_cons]
     have : n / 4294967296 < 4294967296 ^ k := Nat.div_lt_of_lt_mul (by rw [Nat.mul_comm,← Nat.pow_succ]; exact h)
     have := ih this
     omega
theorem qt3 {n : Nat} (h : n ≠ 0) : dg (natW n) ((natW n).length - 1) ≠ 0 := by
 induction n using Nat.strongRecOn with
 | _ n ih =>
   rw [qbw h,List.length_cons]
   by_cases h1 : n / 4294967296 = 0
   · rw [h1, yh]
     have hlt : n < 4294967296 := by
       rcases Nat.lt_or_ge n 4294967296 with h2 | h2
       · exact h2
       · have := Nat.div_pos h2 (by decide); omega
     show n % 4294967296 ≠ 0
     rw [Nat.mod_eq_of_lt hlt]; exact h
   · have ihn := ih _ (Nat.div_lt_self (Nat.pos_of_ne_zero h) (by decide)) h1
     have hl : (natW (n / 4294967296)).length ≠ 0 := fun e => h1 (jh.1 e)
     have e : dg (n % 4294967296 :: natW (n / 4294967296)) ((natW (n / 4294967296)).length + 1 - 1) = dg (natW (n / 4294967296)) ((natW (n / 4294967296)).length - 1) := by
       obtain ⟨k,hk⟩ : ∃ k,(natW (n / 4294967296)).length = k + 1 := ⟨(natW (n / 4294967296)).length - 1,by omega⟩
       rw [hk]; unfold dg; simp
     rw [e]; exact ihn
theorem qmp : ∀ {l : List Nat}, Wds l → (l.length = 0 ∨ dg l (l.length - 1) ≠ 0) → natW (val l) = l
 | [],_,_ => by rw [qc4,yh]
 | x :: l, h, ht => by
   have hx : x < 4294967296 := h x List.mem_cons_self
   have hl : Wds l := fun y hy => h y (List.mem_cons_of_mem _ hy)
   have htop : l.length = 0 ∨ dg l (l.length - 1) ≠ 0 := by
     rcases Nat.eq_zero_or_pos l.length with h0 | h0
     · exact .inl h0
     · right
       rcases ht with ht | ht
       · simp at ht
       · have e : dg (x :: l) ((x :: l).length - 1) = dg l (l.length - 1) := by
           obtain ⟨k,hk⟩ : ∃ k,l.length = k + 1 := ⟨l.length - 1,by omega⟩
           rw [List.length_cons,hk]; unfold dg; simp
         rw [e] at ht; exact ht
   have ih := qmp hl htop
   have hne : val (x :: l) ≠ 0 := by
     rw [zr]
     rcases Nat.eq_zero_or_pos (val l) with h0 | h0
     · have e : l = [] := by rw [← ih, h0, yh]
       subst e
       rcases ht with ht | ht
       · simp at ht
       · have : x ≠ 0 := ht
         omega
     · have : 0 < 4294967296 * val l := Nat.mul_pos (by decide) h0
       omega
   rw [qbw hne,zr]
   rw [Nat.add_mul_mod_self_left,Nat.mod_eq_of_lt hx,Nat.add_mul_div_left _ _ (show 0 < 4294967296 by decide),Nat.div_eq_of_lt hx,Nat.zero_add,ih]
theorem qmq {l : List Nat} {n : Nat} (h : n ≤ l.length) : val (l.take n) = pre l n := by
 unfold val
 rw [List.length_take,Nat.min_eq_left h]
 refine qgw fun j hj => ?_
 unfold dg
 rw [List.getD_eq_getElem?_getD,List.getD_eq_getElem?_getD,List.getElem?_take,if_pos hj]
theorem Wds.take {l : List Nat} (h : Wds l) (n : Nat) : Wds (l.take n) := fun x hx => h x (List.mem_of_mem_take hx)
theorem Wds.drop {l : List Nat} (h : Wds l) (n : Nat) : Wds (l.drop n) := fun x hx => h x (List.mem_of_mem_drop hx)
theorem Wds.app {l m : List Nat} (h : Wds l) (h2 : Wds m) : Wds (l ++ m) := fun x hx => by
 rcases List.mem_append.1 hx with h1 | h1
 · exact h x h1
 · exact h2 x h1
theorem qc5 {l : List Nat} (h : Wds l) : l.take (lowL l) = natW (val l) := by
 have hle := qal l l.length
 have e : val (l.take (lowL l)) = val l := by unfold lowL; rw [qmq hle]; exact qbv
 rw [← e]
 refine (qmp (h.take _) ?_).symm
 rw [List.length_take,Nat.min_eq_left (show lowL l ≤ l.length from hle)]
 rcases Nat.eq_zero_or_pos (lowL l) with h0 | h0
 · exact .inl h0
 · right
   have := qgx h0
   have e2 : dg (l.take (lowL l)) (lowL l - 1) = dg l (lowL l - 1) := by
     unfold dg
     rw [List.getD_eq_getElem?_getD,List.getD_eq_getElem?_getD,List.getElem?_take,if_pos (by omega)]
   rw [e2]; exact this
theorem qd3 {l : List Nat} (h : Wds l) : lowL l = (natW (val l)).length := by
 rw [← qc5 h,List.length_take,Nat.min_eq_left (show lowL l ≤ l.length from qal l l.length)]
theorem qiy {l : List Nat} (h : Wds l) : lowL l = 0 ↔ val l = 0 := by rw [qd3 h]; exact jh
end Go.Tw
namespace Go.Tw
theorem qmr {l : List Nat} {i x k : Nat} (hi : i < l.length) (hk : k ≤ i) : pre (l.set i x) k = pre l k :=
 qgw fun j hj => by rw [qcd hi,if_neg (by omega)]
theorem qgy {l : List Nat} {i x : Nat} (hi : i < l.length) : pre (l.set i x) (i + 1) = pre l i + x * 4294967296 ^ i := by
 rw [pre,qmr hi (Nat.le_refl _),qcd hi,if_pos rfl]
theorem qiz {O a b : List Nat} {i n s c : Nat} (hl : O.length = n + 1) (hi : i < n) (h : pre O i + 4294967296 ^ i * dg O n = pre a i + pre b i) (hs : s + 4294967296 * c = dg a i + dg b i + dg O n) :
   pre ((O.set i s).set n c) (i + 1) + 4294967296 ^ (i + 1) * dg ((O.set i s).set n c) n = pre a (i + 1) + pre b (i + 1) := by
 have h1 : n < (O.set i s).length := by rw [List.length_set]; omega
 rw [qmr h1 (by omega),qgy (by omega),qcd h1,if_pos rfl,pre,pre,pow_succ]
 generalize 4294967296 ^ i = P at *
 grind
theorem qt4 {O a b : List Nat} {i s c c' : Nat} (hi : i < O.length) (h : pre O i + pre b i = pre a i + 4294967296 ^ i * c) (hs : s + dg b i + c = dg a i + 4294967296 * c') :
   pre (O.set i s) (i + 1) + pre b (i + 1) = pre a (i + 1) + 4294967296 ^ (i + 1) * c' := by
 rw [qgy hi,pre,pre,pow_succ]
 generalize 4294967296 ^ i = P at *
 grind
theorem qt5 {O O0 a : List Nat} {off i w c0 c c' s : Nat} (hi : off + i < O.length) (hsame : dg O (off + i) = dg O0 (off + i)) (h : pre O (off + i) + 4294967296 ^ (off + i) * c = pre O0 (off + i) + (pre a i * w + c0) * 4294967296 ^ off)
   (hs : s + 4294967296 * c' = dg a i * w + dg O (off + i) + c) :
   pre (O.set (off + i) s) (off + (i + 1)) + 4294967296 ^ (off + (i + 1)) * c' = pre O0 (off + (i + 1)) + (pre a (i + 1) * w + c0) * 4294967296 ^ off := by
 rw [← Nat.add_assoc,qgy hi,pre,pre,pow_succ,← hsame,Nat.pow_add] at *
 generalize 4294967296 ^ i = P at *
 generalize 4294967296 ^ off = R at *
 generalize pre O (off + i) = x1 at *
 generalize pre O0 (off + i) = x2 at *
 generalize pre a i = x3 at *
 grind
theorem qt6 {O O0 a : List Nat} {off w c0 c : Nat} (hi : off + a.length < O.length) (h : pre O (off + a.length) + 4294967296 ^ (off + a.length) * c = pre O0 (off + a.length) + (pre a a.length * w + c0) * 4294967296 ^ off) :
   pre (O.set (off + a.length) c) (off + a.length + 1) = pre O0 (off + a.length) + (val a * w + c0) * 4294967296 ^ off := by
 rw [qgy hi,Nat.mul_comm c,h]; rfl
theorem qi0 {l : List Nat} {i : Nat} (h : i < l.length) : val (l.drop i) = dg l i + 4294967296 * val (l.drop (i + 1)) := by
 rw [List.drop_eq_getElem_cons h,zr,qd2 h]
theorem qgz {l : List Nat} {i : Nat} (h : l.length ≤ i) : val (l.drop i) = 0 := by rw [List.drop_eq_nil_of_le h]; rfl
theorem qi1 (l m : List Nat) : val (l ++ m) = val l + 4294967296 ^ l.length * val m := by
 induction l with
 | nil => simp [qc4]
 | cons x l ih =>
   rw [List.cons_append,zr,ih,zr,List.length_cons,pow_succ]
   generalize 4294967296 ^ l.length = P
   grind
theorem qms {l : List Nat} {i : Nat} (h : i ≤ l.length) : val l = pre l i + 4294967296 ^ i * val (l.drop i) := by
 have e := qi1 (l.take i) (l.drop i)
 rw [List.take_append_drop,qmq h,List.length_take,Nat.min_eq_left h] at e
 exact e
theorem qt7 {l : List Nat} {i x k : Nat} (h : i < k) : (l.set i x).drop k = l.drop k := by rw [List.drop_set,if_pos h]
theorem qt8 {l : List Nat} {i x : Nat} (h : i < l.length) : val ((l.set i x).drop i) = x + 4294967296 * val (l.drop (i + 1)) := by
 rw [qi0 (by rw [List.length_set]; exact h),qcd h,if_pos rfl,qt7 (by omega)]
theorem qmt {a q : List Nat} {i d r s r' : Nat} (ha : i < a.length) (hq : i < q.length) (h : val (a.drop (i + 1)) = val (q.drop (i + 1)) * d + r) (hs : r * 4294967296 + dg a i = s * d + r') :
   val (a.drop i) = val ((q.set i s).drop i) * d + r' := by
 rw [qi0 ha,qt8 hq,h]
 generalize val (q.drop (i + 1)) = x
 grind
theorem qg0 {a d q r : Nat} (h : a = q * d + r) (hr : r < d) : q = a / d ∧ r = a % d := by
 subst h
 constructor
 · rw [Nat.add_comm,Nat.add_mul_div_right _ _ (by omega),Nat.div_eq_of_lt hr,Nat.zero_add]
 · rw [Nat.add_comm,Nat.add_mul_mod_self_right,Nat.mod_eq_of_lt hr]
theorem qi2 {p q d : Nat} (h : p < d) (hq : q < 4294967296) : (p * 4294967296 + q) / d < 4294967296 := by
 rw [Nat.div_lt_iff_lt_mul (by omega)]
 have : (p + 1) * 4294967296 ≤ d * 4294967296 := Nat.mul_le_mul_right _ h
 rw [Nat.mul_comm 4294967296 d]
 omega
end Go.Tw
namespace Go.Tw
theorem qt9 {P b1 t b R : Nat} (hP : 0 < P) (h1 : 0 < b1) (hb : P * b1 ≤ b) (hR : R < (t + 1) * P) : R / b ≤ t / b1 := by
 rw [Nat.le_div_iff_mul_le h1]
 have e1 : R / b * b ≤ R := Nat.div_mul_le_self R b
 have e2 : R / b * (P * b1) ≤ R / b * b := Nat.mul_le_mul_left _ hb
 have e3 : (R / b * b1) * P < (t + 1) * P := by
   rw [Nat.mul_assoc,Nat.mul_comm b1 P]; omega
 have := Nat.lt_of_mul_lt_mul_right e3
 omega
theorem qua (P t x : Nat) (h : x < P) : x + t * P < (t + 1) * P := by rw [Nat.add_mul,Nat.one_mul]; omega
theorem qub {rest b : List Nat} (hr : Wds rest) (hb : Wds b) (hn : 0 < b.length) (htop : dg b (b.length - 1) ≠ 0) (hlen : rest.length ≤ b.length + 1) :
   (rest.length < b.length → val rest / val b = 0) ∧ val rest / val b ≤ (dg rest b.length * 4294967296 + dg rest (b.length - 1)) / dg b (b.length - 1) := by
 obtain ⟨n,hn'⟩ : ∃ n,b.length = n + 1 := ⟨b.length - 1,by omega⟩
 rw [hn'] at htop hlen ⊢
 rw [Nat.add_sub_cancel] at htop ⊢
 have hbv : val b = pre b n + dg b n * 4294967296 ^ n := by unfold val; rw [hn',pre]
 have hle : 4294967296 ^ n * dg b n ≤ val b := by rw [hbv,Nat.mul_comm]; omega
 have hrv : val rest = pre rest n + (dg rest (n + 1) * 4294967296 + dg rest n) * 4294967296 ^ n := by
   have e : val rest = pre rest (n + 2) := (zj hlen).symm
   rw [e,pre,pre,pow_succ]
   generalize 4294967296 ^ n = P
   grind
 have hlt := qay hr n
 constructor
 · intro h
   have e0 : dg rest n = 0 := qbg (by omega)
   have e1 : dg rest (n + 1) = 0 := qbg (by omega)
   rw [e0,e1] at hrv
   refine Nat.div_eq_of_lt ?_
   have h1 : 4294967296 ^ n * 1 ≤ 4294967296 ^ n * dg b n := Nat.mul_le_mul_left _ (by omega)
   rw [Nat.mul_one] at h1
   generalize 4294967296 ^ n = P at *
   omega
 · refine qt9 (pow_pos n) (by omega) hle ?_
   rw [hrv]
   exact qua _ _ _ hlt
theorem quc {R b q : Nat} (hb : 0 < b) (h : R / b ≤ q) (hs : b * q ≤ R) : q = R / b ∧ R - b * q = R % b := by
 have h1 : q ≤ R / b := by rw [Nat.le_div_iff_mul_le hb,Nat.mul_comm]; exact hs
 have h2 : q = R / b := by omega
 refine ⟨h2,?_⟩
 have := Nat.div_add_mod R b
 rw [h2]
 omega
theorem qud {R b q : Nat} (hb : 0 < b) (h : R / b ≤ q) (hs : ¬ b * q ≤ R) : R / b ≤ q - 1 ∧ 0 < q := by
 have h0 : 0 < q := by
   rcases Nat.eq_zero_or_pos q with h1 | h1
   · subst h1; simp at hs
   · exact h1
 have h1 : R / b ≠ q := fun e => hs (by rw [← e,Nat.mul_comm]; exact Nat.div_mul_le_self R b)
 omega
theorem que (k : Nat) : val (List.replicate k 0) = 0 := by
 induction k with
 | zero => rfl
 | succ k ih => rw [List.replicate_succ,zr,ih]
theorem qi3 (k : Nat) (l : List Nat) : val (List.replicate k 0 ++ l) = 4294967296 ^ k * val l := by rw [qi1,que,List.length_replicate,Nat.zero_add]
theorem qce (k : Nat) : 4294967296 ^ k = 2 ^ (32 * k) := by rw [Nat.pow_mul]
theorem quf (a n : Nat) : 4294967296 ^ (n / 32) * (a * 2 ^ (n % 32)) = a * 2 ^ n := by
 rw [qce,Nat.mul_left_comm,← Nat.pow_add,Nat.div_add_mod]
def bitZ (n : Nat) : Nat := if n = 0 then 0 else Nat.log2 n + 1
theorem qc6 {n : Nat} : bitZ n = 0 ↔ n = 0 := by unfold bitZ; split <;> omega
theorem qi4 (n : Nat) : n < 2 ^ bitZ n := by
 unfold bitZ
 split
 · subst_vars; decide
 · exact Nat.lt_log2_self
theorem qg1 {n : Nat} (h : n ≠ 0) : 2 ^ (bitZ n - 1) ≤ n := by
 unfold bitZ
 rw [if_neg h,Nat.add_sub_cancel]
 exact Nat.log2_self_le h
theorem qmu {n k : Nat} (h1 : 2 ^ k ≤ n) (h2 : n < 2 ^ (k + 1)) : bitZ n = k + 1 := by
 have h0 : n ≠ 0 := fun e => by subst e; have := Nat.pow_pos (n := k) (show 0 < 2 by decide); omega
 unfold bitZ
 rw [if_neg h0,(Nat.log2_eq_iff h0).2 ⟨h1,h2⟩]
theorem qd4 {n k : Nat} (h : n < 2 ^ k) : bitZ n ≤ k := by
 rcases Nat.eq_zero_or_pos n with h0 | h0
 · subst h0; simp [bitZ]
 · have h1 := qg1 (n := n) (by omega)
   rcases Nat.lt_or_ge k (bitZ n) with h2 | h2
   · have : 2 ^ k ≤ 2 ^ (bitZ n - 1) := Nat.pow_le_pow_right (by decide) (by omega)
     omega
   · exact h2
theorem qug {l : List Nat} (h : Wds l) (hn : 0 < lowL l) : 32 * (lowL l - 1) + bitZ (dg l (lowL l - 1)) = bitZ (val l) := by
 have ht := qgx hn
 have hlt := yz h (lowL l - 1)
 obtain ⟨n,hn'⟩ : ∃ n,lowL l = n + 1 := ⟨lowL l - 1,by omega⟩
 have e : val l = pre l (n + 1) := by rw [← hn']; exact qbv.symm
 change dg l (lowL l - 1) ≠ 0 at ht
 rw [hn',Nat.add_sub_cancel] at ht hlt ⊢
 have hp := qay h n
 rw [pre] at e
 have h1 := qi4 (dg l n)
 have h2 := qg1 ht
 have h3 : 0 < bitZ (dg l n) := by
   rcases Nat.eq_zero_or_pos (bitZ (dg l n)) with h0 | h0
   · exact absurd (qc6.1 h0) ht
   · exact h0
 obtain ⟨k,hk⟩ : ∃ k,bitZ (dg l n) = k + 1 := ⟨bitZ (dg l n) - 1,by omega⟩
 rw [hk,Nat.add_sub_cancel] at h2
 rw [hk] at h1 ⊢
 rw [e,← Nat.add_assoc]
 refine (qmu ?_ ?_).symm
 · rw [Nat.pow_add, ← qce, Nat.mul_comm]
   have := Nat.mul_le_mul_right (4294967296 ^ n) h2
   omega
 · rw [Nat.add_assoc, Nat.pow_add, ← qce]
   have : (dg l n + 1) * 4294967296 ^ n ≤ 2 ^ (k + 1) * 4294967296 ^ n := Nat.mul_le_mul_right _ h1
   rw [Nat.add_mul,Nat.one_mul] at this
   rw [Nat.mul_comm (4294967296 ^ n)]
   omega
theorem quh (a b : Nat) : Nat.gcd b (a % b) = Nat.gcd a b := by rw [Nat.gcd_comm a b,Nat.gcd_comm b (a % b)]; exact (Nat.gcd_rec b a).symm
theorem qui {x : Nat} (h : x % 2 = 1) (m : Nat) : Nat.Coprime x (2 ^ m) := by
 refine Nat.Coprime.pow_right m ?_
 have h1 : Nat.gcd x 2 = Nat.gcd 2 x := Nat.gcd_comm _ _
 unfold Nat.Coprime
 rw [h1,Nat.gcd_rec,h]; rfl
theorem qi5 {x y : Nat} (h : x % 2 = 1) (m : Nat) : Nat.gcd x (2 ^ m * y) = Nat.gcd x y := Nat.Coprime.gcd_mul_left_cancel_right y (qui h m).symm
theorem quj {x y : Nat} (hx : x % 2 = 1) (hy : y % 2 = 1) (n k : Nat) : Nat.gcd (2 ^ n * x) (2 ^ k * y) = Nat.gcd x y * 2 ^ min n k := by
 rcases Nat.le_total n k with h | h
 · obtain ⟨m, rfl⟩ : ∃ m, k = n + m := ⟨k - n, by omega⟩
   rw [Nat.pow_add,Nat.mul_assoc,Nat.gcd_mul_left,qi5 hx,Nat.min_eq_left h,Nat.mul_comm]
 · obtain ⟨m, rfl⟩ : ∃ m, n = k + m := ⟨n - k, by omega⟩
   rw [Nat.pow_add,Nat.mul_assoc,Nat.gcd_mul_left,Nat.gcd_comm (2 ^ m * x) y,qi5 hy,Nat.gcd_comm y x,Nat.min_eq_right h,Nat.mul_comm]
theorem qmv {x y z m : Nat} (hy : y % 2 = 1) (h : y ≤ x) (he : x - y = 2 ^ m * z) : Nat.gcd z y = Nat.gcd x y := by
 have h1 : Nat.gcd (x - y) y = Nat.gcd x y := Nat.gcd_sub_self_left h
 rw [he,Nat.gcd_comm,qi5 hy,Nat.gcd_comm] at h1
 exact h1
end Go.Tw
namespace Go.Tw
open Go Go.RowKit
def wl (O : List Nat) : List Value := O.map fun (x : Nat) => Value.int .u32 (x : Int)
def wcs (O : List Nat) : List (List Value) := O.map fun (x : Nat) => [Value.int .u32 (x : Int)]
theorem qbx (O : List Nat) : (wcs O).flatten = wl O := by
 induction O with
 | nil => rfl
 | cons x O ih => show [_] ++ (wcs O).flatten = _; rw [ih]; rfl
theorem zu (O : List Nat) : (wl O).length = O.length := by simp [wl]
theorem yv (O : List Nat) : (wcs O).length = O.length := by simp [wcs]
theorem qfi (O : List Nat) : ∀ c ∈ wcs O,c.length = 1 := by
 intro c hc
 obtain ⟨x,_,rfl⟩ := List.mem_map.1 hc
 rfl
theorem qg2 (O : List Nat) : ∀ c ∈ wcs O,jo c = true := by
 intro c hc
 obtain ⟨x,_,rfl⟩ := List.mem_map.1 hc
 rfl
theorem qfj {O : List Nat} {i : Nat} (h : i < O.length) : (wl O)[i]? = some (.int .u32 (dg O i : Nat)) := by
 unfold wl; rw [List.getElem?_map,qiw h]; rfl
theorem quk {O : List Nat} {i : Nat} (h : i < O.length) : (wcs O)[i]? = some [.int .u32 (dg O i : Nat)] := by
 unfold wcs; rw [List.getElem?_map,qiw h]; rfl
theorem qi6 {O : List Nat} {i x : Nat} {z : Int} (h : z = x) : (wl O).set i (.int .u32 z) = wl (O.set i x) := by
 subst h; unfold wl; rw [List.map_set]
theorem qbh (m : Nat) : (madeCells [Value.int .u32 0].toArray (m * 1)).toList = wl (List.replicate m 0) := by
 rw [Nat.mul_one]; exact (toList_madeCells_one _ _).trans (by simp [wl])
theorem qby (m : Nat) : Wds (List.replicate m 0) := fun x hx => by rw [(List.mem_replicate.1 hx).2]; decide
theorem qi7 (m i : Nat) : dg (List.replicate m 0) i = 0 := by
 rcases Nat.lt_or_ge i m with h | h
 · rw [qd2 (by simpa using h)]; simp
 · exact qbg (by simpa using h)
theorem qmw (m i : Nat) : pre (List.replicate m 0) i = 0 := by
 induction i with
 | zero => rfl
 | succ i ih => rw [pre,ih,qi7,Nat.zero_mul]
structure Ws (I : Hp) (v : Value) (O : List Nat) : Prop where
 slc : Slc I 1 v (wcs O)
 wds : Wds O
theorem Ws.le {I I' : Hp} {v : Value} {O : List Nat} (h : Ws I v O) (hl : I.Le I') : Ws I' v O := ⟨h.slc.le hl,h.wds⟩
theorem Ws.nil (I : Hp) : Ws I (.slice none 0 0) [] := ⟨Slc.nil _ _,zc⟩
theorem Ws.most {I : Hp} {v : Value} {O : List Nat} (h : Ws I v O) : O.length ≤ maxLen := by have := h.slc.most; rwa [yv] at this
theorem Slc.cells1 {I : Hp} {sz : Nat} {v : Value} {xs : List (List Value)} (h : Slc I sz v xs) : v.cells = [v].toArray ∧ v.oneCell' = true := by
 rcases h.shape with ⟨_,rfl,_⟩ | ⟨b,off,cap,rfl,_⟩ <;> exact ⟨rfl,rfl⟩
theorem Ws.cells1 {I : Hp} {v : Value} {O : List Nat} (h : Ws I v O) : v.cells = [v].toArray ∧ v.oneCell' = true := h.slc.cells1
theorem one_nil : qbe [] = true := rfl
theorem qul {v : Value} {vs : List Value} (h : v.oneCell' = true) (hs : qbe vs = true) : qbe (v :: vs) = true := by
 cases v <;> first | exact hs | (simp [Value.oneCell'] at h)
theorem Ws.cell {I : Hp} {v : Value} {O : List Nat} (h : Ws I v O) {i : Nat} (hi : i < O.length) : I.cell? ⟨slcB v,slcO v + i * 1,none⟩ = some (.int .u32 (dg O i : Nat)) := h.slc.cells i _ (quk hi) 0 _ rfl
theorem Ws.cellI {I : Hp} {v : Value} {O : List Nat} (h : Ws I v O) {i : Int} {k : Nat} (hk : i.toNat = k) (hi : k < O.length) : I.cell? ⟨slcB v,slcO v + i.toNat * 1,none⟩ = some (.int .u32 (dg O k : Nat)) := by subst hk; exact h.cell hi
theorem Ws.cut {I : Hp} {v : Value} {O : List Nat} (h : Ws I v O) {lo hi : Nat} (h1 : lo ≤ hi) (h2 : hi ≤ O.length) : Ws I (jp v lo hi 1) ((O.take hi).drop lo) := by
 refine ⟨?_,(h.wds.take _).drop _⟩
 have := h.slc.cut h1 (by rw [yv]; exact h2)
 unfold wcs at this ⊢
 rw [List.map_drop,List.map_take]
 exact this
theorem qmx {sz : Nat} : ∀ {yss : List (List Value)}, (∀ c ∈ yss, c.length = sz) → ∀ j c, yss[j]? = some c → ∀ k y, c[k]? = some y → yss.flatten[j * sz + k]? = some y
 | [],_,j,c,hj,k,y,hk => by simp at hj
 | x :: r, hl, 0, c, hj, k, y, hk => by
   simp only [List.getElem?_cons_zero,Option.some.injEq] at hj
   subst hj
   rw [List.flatten_cons,Nat.zero_mul,Nat.zero_add,List.getElem?_append_left (List.getElem?_eq_some_iff.1 hk).1]
   exact hk
 | x :: r, hl, j + 1, c, hj, k, y, hk => by
   have hx := hl x List.mem_cons_self
   simp only [List.getElem?_cons_succ] at hj
   have ih := qmx (fun c hc => hl c (List.mem_cons_of_mem _ hc)) j c hj k y hk
   rw [List.flatten_cons,List.getElem?_append_right (by rw [hx,Nat.add_mul,Nat.one_mul]; omega),hx]
   rw [show (j + 1) * sz + k - sz = j * sz + k by rw [Nat.add_mul,Nat.one_mul]; omega]
   exact ih
theorem Slc.of_box {I : Hp} {sz b : Nat} {xss : List (List Value)} {T : TypeId} {fz : Nat × Nat} (hI : I b = some (.cells xss.flatten.toArray T fz)) (hl : ∀ c ∈ xss, c.length = sz) (hm : xss.length ≤ maxLen) {c : Nat} (hc : xss.length ≤ c) : Slc I sz (.slice (some ⟨b, 0, none⟩) xss.length c) xss :=
 ⟨.inr ⟨b, 0, c, rfl, hc⟩, fun j x hj k y hk => by
   have := qmx hl j x hj k y hk
   simp only [Hp.cell?,slcB,slcO,hI]
   simpa using this,hl,hm⟩
section
variable {P : Program} {Q : Exit → Act → World → Prop} {n : Nat} {D : List Deferred} {E : Env} {S S' : World → Prop} {ops : Array Oper} {rest : List Oper} {d : Nat} {op : Op} {ty : TypeId} {pos : String} {aft : Array Edge} {g : Option (Nat × Bool)} {v : Value} {w0 : World} {X : List Nat} {I : Hp} {B B' : List Item}
theorem vj {qm : Bool} {x : Operand} {t e : TypeId} {u : Value} {O : List Nat} (hg : qi ops E g) (hd : Nat.blt d n = true) (hu : P.underlying t = some (.slice e)) (hx : ev E x = some u) (hs : Ws I u O)
   (k : TL qm P ops Q rest n D ((d,.int .i64 O.length) :: E) S) : TL qm P ops Q (⟨some d,.call { callee := .builtin .len,args := #[x],argTypes := #[t] },ty,pos,aft,g⟩ :: rest) n D E S :=
 qw hg hd hu hx hs.slc (by rw [yv]; exact k)
theorem y4 {qm : Bool} {x ix : Operand} {t e : TypeId} {u : Value} {O : List Nat} {kd : IntKind} {i : Int} (hg : qi ops E g) (hd : Nat.blt d n = true) (hu : P.underlying t = some (.slice e)) (hsz : ∀ w, (sizeOf e).run P w = .ok 1 w) (hx : ev E x = some u) (hs : Ws I u O) (hi : ev E ix = some (.int kd i)) (h : 0 ≤ i ∧ i < O.length)
   (k : TL qm P ops Q rest n D ((d,.pointer (some ⟨slcB u,slcO u + i.toNat * 1,none⟩)) :: E) S) : TL qm P ops Q (⟨some d,.indexAddr t x ix,ty,pos,aft,g⟩ :: rest) n D E S :=
 vk hg hd hu hsz hx hs.slc hi (by rw [yv]; exact h) k
theorem St.sealBox {w : World} {b : Nat} {o : Obj} (h : St w0 [] I B w) (ht : Take (.box b o) B B') : ∃ I',St w0 [] I' B' w ∧ Ext w0.heap.size I I' ∧ I' b = some o := by
 have h1 := h.perm ht.perm
 have hd := h1.dis _ List.mem_cons_self b rfl
 refine ⟨_,h1.seal_,⟨fun k o' hk => ?_,fun k hk hk' => ?_⟩,if_pos rfl⟩
 · show (if k = b then _ else I k) = some o'
   by_cases hkb : k = b
   · subst hkb; rw [hd.1] at hk; cases hk
   · rw [if_neg hkb]; exact hk
 · by_cases hkb : k = b
   · subst hkb
     rcases hd.2 with h2 | h2
     · exact h2
     · cases h2
   · rw [if_neg hkb] at hk'; exact absurd hk hk'
theorem qi8 {c : Code} {b : Nat} {o : Obj} (ht : Take (.box b o) B B') (k : ∀ I', Ext w0.heap.size I I' → I' b = some o → TC P c Q n D E (St w0 [] I' B')) : TC P c Q n D E (St w0 [] I B) := ⟨fun a w ha hw => by
 obtain ⟨I',h1,h2,h3⟩ := hw.sealBox ht
 exact (k I' h2 h3).out a w ha h1⟩
theorem qcf {l : List Oper} {b : Nat} {o : Obj} (ht : Take (.box b o) B B') (k : ∀ I', Ext w0.heap.size I I' → I' b = some o → TL false P ops Q l n D E (St w0 [] I' B')) : TL false P ops Q l n D E (St w0 [] I B) := ⟨fun a w ha hw => by
 obtain ⟨I',h1,h2,h3⟩ := hw.sealBox ht
 exact (k I' h2 h3).out a w ha h1⟩
theorem Ws.of_box {I : Hp} {b : Nat} {O : List Nat} {T : TypeId} {fz : Nat × Nat} (hI : I b = some (.cells (wl O).toArray T fz)) (hw : Wds O) (hm : O.length ≤ maxLen) {c : Nat} (hc : O.length ≤ c) : Ws I (.slice (some ⟨b,0,none⟩) O.length c) O := by
 rw [← qbx] at hI
 have := Slc.of_box (c := c) hI (qfi O) (by rw [yv]; exact hm) (by rw [yv]; exact hc)
 rw [yv] at this
 exact ⟨this,hw⟩
theorem qd5 {c : Code} {b : Nat} (O : List Nat) {T : TypeId} {fz : Nat × Nat} (ht : Take (.box b (.cells (wl O).toArray T fz)) B B') (hw : Wds O) (hm : O.length ≤ maxLen) (k : ∀ I', Ext w0.heap.size I I' → Ws I' (.slice (some ⟨b, 0, none⟩) O.length O.length) O → TC P c Q n D E (St w0 [] I' B')) : TC P c Q n D E (St w0 [] I B) :=
 qi8 ht fun I' hx hI => k I' hx (Ws.of_box hI hw hm (Nat.le_refl _))
theorem qaz {l : List Oper} {b : Nat} (O : List Nat) {T : TypeId} {fz : Nat × Nat} (ht : Take (.box b (.cells (wl O).toArray T fz)) B B') (hw : Wds O) (hm : O.length ≤ maxLen) (k : ∀ I', Ext w0.heap.size I I' → Ws I' (.slice (some ⟨b, 0, none⟩) O.length O.length) O → TL false P ops Q l n D E (St w0 [] I' B')) : TL false P ops Q l n D E (St w0 [] I B) :=
 qcf ht fun I' hx hI => k I' hx (Ws.of_box hI hw hm (Nat.le_refl _))
theorem qmy {l : List Oper} {e : TypeId} {size nn : Nat} {u : Value} {xss : List (List Value)} (ht : Take (.row u e size nn xss.flatten) B B') (hn : xss.length = nn) (hlen : ∀ c ∈ xss, c.length = size) (hm : nn ≤ maxLen)
   (k : ∀ I',Ext w0.heap.size I I' → Slc I' size u xss → TL false P ops Q l n D E (St w0 [] I' B')) : TL false P ops Q l n D E (St w0 [] I B) := ⟨fun a w ha hw => by
 obtain ⟨I',h1,h2,h3⟩ := (hw.perm ht.perm).sealRow hn hlen hm
 exact (k I' h2 h3).out a w ha h1⟩
theorem qa0 {c : Code} {e : TypeId} {size nn : Nat} {u : Value} {xss : List (List Value)} (ht : Take (.row u e size nn xss.flatten) B B') (hn : xss.length = nn) (hlen : ∀ c ∈ xss, c.length = size) (hm : nn ≤ maxLen)
   (k : ∀ I',Ext w0.heap.size I I' → Slc I' size u xss → TC P c Q n D E (St w0 [] I' B')) : TC P c Q n D E (St w0 [] I B) := ⟨fun a w ha hw => by
 obtain ⟨I',h1,h2,h3⟩ := (hw.perm ht.perm).sealRow hn hlen hm
 exact (k I' h2 h3).out a w ha h1⟩
theorem St.boxRow {w : World} {b m sz : Nat} {T : TypeId} {cs : List Value} (h : St w0 X I (.box b (.cells cs.toArray T (0, 0)) :: B) w) (hl : cs.length = m * sz) (hm : m ≤ maxLen) : St w0 X I (.row (.slice (some ⟨b, 0, none⟩) m m) T sz m cs :: B) w :=
 ⟨h.os, h.tape, h.output, h.size, h.keep, h.imm, fun it hi => by
   rcases List.mem_cons.1 hi with rfl | hi
   · exact ⟨hl,.inr ⟨b,m,cs.toArray,rfl,Nat.zero_le _,h.own _ List.mem_cons_self,Nat.le_refl _,hm,by simpa using hl,by simp [← hl]⟩⟩
   · exact h.own it (List.mem_cons_of_mem _ hi),fun it hi k hk => by
   rcases List.mem_cons.1 hi with rfl | hi
   · cases hk; exact h.dis _ List.mem_cons_self b rfl
   · exact h.dis it (List.mem_cons_of_mem _ hi) k hk,by
   obtain ⟨h1,h2⟩ := List.pairwise_cons.1 h.apart
   exact List.pairwise_cons.2 ⟨fun y hy k hk => by cases hk; exact h1 y hy b rfl,h2⟩⟩
theorem St.wl1 {w : World} {b : Nat} {T : TypeId} {fz : Nat × Nat} {k : Nat} {O : List Nat} (i x : Nat) (hk : k = i) (h : St w0 X I (.box b (.cells ((wl O).set k (.int .u32 (x : Int))).toArray T fz) :: B) w) : St w0 X I (.box b (.cells (wl (O.set i x)).toArray T fz) :: B) w := by
 subst hk; rw [qi6 rfl] at h; exact h
theorem St.wl2 {w : World} {b : Nat} {T : TypeId} {fz : Nat × Nat} {k l : Nat} {O : List Nat} (i j x y : Nat) (hk : k = i) (hl : l = j) (h : St w0 X I (.box b (.cells (((wl O).set k (.int .u32 (x : Int))).set l (.int .u32 (y : Int))).toArray T fz) :: B) w) : St w0 X I (.box b (.cells (wl ((O.set i x).set j y)).toArray T fz) :: B) w := by
 subst hk; subst hl; rw [qi6 rfl,qi6 rfl] at h; exact h
theorem qum {x s : Operand} {t e T : TypeId} {b k c : Nat} {us : Value} {Dl O : List Nat} {bytes : Nat} {zs : List Value} (hg : qi ops E g) (hd : Nat.blt d n = true) (hu : P.underlying t = some (.slice e)) (he : qc3 P e 1 bytes zs) (hx : ev E x = some (.slice (some ⟨b, 0, none⟩) k c)) (hs : ev E s = some us) (hw : Ws I us O)
   (hB : Put B (.box b (.cells (wl Dl).toArray T (0,0))) B' (.box b (.cells (wl (O.take k)).toArray T (0,0)))) (hk : Dl.length = k) (hle : 0 < k ∧ k ≤ O.length)
   (kk : TL false P ops Q rest n D ((d,.int .i64 k) :: E) (St w0 X I B')) : TL false P ops Q (⟨some d,.call { callee := .builtin .copy,args := #[x,s],argTypes := #[t,t] },ty,pos,aft,g⟩ :: rest) n D E (St w0 X I B) :=
 o_op hg hd (v := .int .i64 k) (S' := St w0 X I B') (fun a w ha hS d pos aft g => by
   obtain ⟨i,z,h2,h3,h4,h5,h6,h7⟩ := he
   have hlen := yv O
   obtain ⟨cap,hv,hcap⟩ := hw.slc.form (by rw [hlen]; omega)
   rw [hlen] at hv
   have hbox : w.heap[b]? = some (.cells (wl Dl).toArray T (0,0)) := hS.own _ hB.mem
   have htl : (wl (O.take k)).length = k := by rw [zu,List.length_take]; omega
   have hr := run_copy_row (P := P) w t t ty e b 0 k c ⟨slcB us, slcO us, none⟩ O.length cap (wl Dl).toArray T (wl (O.take k)) hu (by rw [h2]; simp [h4]) hbox (by rw [htl]; exact (Nat.min_eq_right hle.2).symm) (fun j y hj => by
       have hjlt := (List.getElem?_eq_some_iff.1 hj).1
       rw [htl] at hjlt
       have e1 : (wl (O.take k))[j]? = (wl O)[j]? := by unfold wl; rw [List.map_take,List.getElem?_take,if_pos hjlt]
       rw [e1,qfj (by omega)] at hj
       cases hj
       rw [add_none]
       have := Hp.In.cell hS.imm (hw.cell (i := j) (by omega))
       rw [Nat.mul_one] at this
       exact this) (by simp only [List.size_toArray,zu,htl]; omega) (fun y hy => by
       obtain ⟨q,_,rfl⟩ := List.mem_map.1 hy
       rfl)
   refine ⟨_,?_,hS.turn hB (w' := w.setRow b (wl (O.take k)).toArray) ⟨rfl,rfl,rfl,by simp [World.setRow],fun k hk hne => setRow_other w b k _ (fun e => hne (by rw [e]; rfl))⟩ (setRow_heap w b _ _ T (0,0) hbox) (fun _ h => .inl h)⟩
   have e2 : ((wl Dl).toArray.toList.take 0 ++ wl (O.take k) ++ (wl Dl).toArray.toList.drop (0 + (wl (O.take k)).length)) = wl (O.take k) := by
     rw [List.take_zero,List.nil_append,htl,Nat.zero_add,List.drop_eq_nil_of_le (by simp only [zu]; omega),List.append_nil]
   rw [e2] at hr
   have hs' : a.eval s = .slice (some ⟨slcB us,slcO us,none⟩) O.length cap := by rw [ha.ev hs]; exact hv
   simp only [execOp,resolve,List.map_toArray,List.map_cons,List.map_nil,ha.ev hx,hs',Sem.run_bind,Sem.run_pure,Result.andThen_ok,invoke,builtin,hr,htl]
   rfl) kk
end
end Go.Tw
namespace Go.Tw
open Go Go.RowKit Go.ChangeShapes Go.WideShapes Go.ChangeAt Go.Deep
def Tr {H : Type} (enc : TypeId × Value → H) (P : Program) (W : World) (t : TypeId) (cs : List Value) : Prop := ∃ n x,DataW.trod enc P W 0 (fun _ => true) true n t cs = some x
section
variable {base : Nat} {H : Type} {enc : TypeId × Value → H} {P : Program} {W : World} {t e : TypeId} {v : Value} {cs : List Value} {d : DataW H} {ps : List MemPlace}
theorem qmz (ht : P.underlying t = some (.slice e)) (hval : Value.okWide P W .any base t v) (h : DataW.Trod enc P W 0 (fun _ => true) true t v d ps) : Tr enc P W t [v] := by
 obtain ⟨a,len,cap,rfl⟩ := okWide_slice ht hval
 obtain ⟨n,h⟩ := h
 exact ⟨n,_,h⟩
theorem qfk {k : IntKind} (ht : P.underlying t = some (.int k)) (h : Tr enc P W t [v]) : ∃ z,v = .int k z ∧ (Lit.int k z).wf = true := by
 obtain ⟨n,x,h⟩ := h
 obtain ⟨z,h1,_,h2⟩ := DataW.trod_int ht h
 exact ⟨z,(List.cons.inj h1).1,h2⟩
theorem qm0 {fs : Array Field} (ht : P.underlying t = some (.struct fs)) (h : Tr enc P W t cs) : cs.length = P.cellsOf t ∧ ∀ (i : Nat) (f : Field),fs[i]? = some f → Tr enc P W f.type ((cs.drop f.offset).take (P.cellsOf f.type)) := by
 obtain ⟨n,x,h⟩ := h
 obtain ⟨xs,m,_,_,hl,hx,hf⟩ := DataW.trod_struct ht h
 refine ⟨hl,fun i f hi => ?_⟩
 have h1 := hf i f hi
 have hlt : i < xs.length := by rw [hx]; exact (Array.getElem?_eq_some_iff.1 hi).1
 rw [List.getElem?_eq_getElem hlt] at h1
 exact ⟨m,_,h1⟩
theorem qm1 {sz : Nat} (ht : P.underlying t = some (.slice e)) (hsz : P.cellsOf e = sz) (hpos : 0 < sz) (h : Tr enc P W t [v]) : ∃ xss : List (List Value),Slc (World.hp W) sz v xss ∧ ∀ c ∈ xss,Tr enc P W e c := by
 obtain ⟨n,x,h⟩ := h
 rcases open_slice ht h with ⟨h1,_⟩ | ⟨a,len,cap,m,n',D,Pl,h1,hb,hl,hc,hm,_,hx⟩
 · obtain rfl := (List.cons.inj h1).1
   exact ⟨[],Slc.nil _ _,fun c hc => by cases hc⟩
 · obtain rfl := (List.cons.inj h1).1
   subst hsz
   simp only [if_true] at hm
   subst hm
   obtain ⟨G,hG⟩ := choose_lt (α := List Value) (p := fun i cs' => W.cells? 0 (a.add (i * P.cellsOf e)) (P.cellsOf e) = some cs' ∧ DataW.trod enc P W 0 (fun _ => true) true n' e cs' = some (D i,Pl i)) hx
   have hcell : ∀ i, i < m → (G i).length = P.cellsOf e ∧ ∀ k, k < P.cellsOf e → W.cell? (a.add (i * P.cellsOf e + k)) = (G i)[k]? := fun i hi => by
     obtain ⟨h2,h3,h4⟩ := World.cells?_some (hG i hi).1
     refine ⟨h3,fun k hk => ?_⟩
     rw [← h4 k hk,add_add]
   refine ⟨(List.range len).map G,?_,fun c hc => ?_⟩
   · have hlen : ((List.range len).map G).length = len := by simp
     have hlens : ∀ c ∈ (List.range len).map G, c.length = P.cellsOf e := fun c hc => by
       obtain ⟨i,hi,rfl⟩ := List.mem_map.1 hc
       exact (hcell i (by have := List.mem_range.1 hi; omega)).1
     by_cases h0 : m = 0
     · have hl0 : len = 0 := by omega
       subst h0
       subst hl0
       exact Slc.nilA _ _ _
     · have hsp : a.spot = none := by
         have h2 := (hcell 0 (by omega)).2 0 hpos
         have h3 : 0 < (G 0).length := by rw [(hcell 0 (by omega)).1]; exact hpos
         rw [List.getElem?_eq_getElem h3] at h2
         unfold World.cell? at h2
         split at h2
         · split at h2
           · cases h2
           · rename_i hs
             have hz : a.add (0 * P.cellsOf e + 0) = a := by rw [Nat.zero_mul]; unfold Addr.add; simp
             rw [hz] at hs
             cases hsp : a.spot with
             | none => rfl
             | some s => rw [hsp] at hs; simp at hs
         · cases h2
       obtain ⟨b,off,s⟩ := a
       change s = none at hsp
       subst hsp
       refine ⟨.inr ⟨b,off,m,by rw [hlen],by rw [hlen]; exact hl⟩,fun j c hj k u hk => ?_,hlens,by rw [hlen]; omega⟩
       rw [List.getElem?_map] at hj
       have hjl : j < len := by
         by_cases hjl : j < len
         · exact hjl
         · rw [List.getElem?_eq_none (by simp; omega)] at hj; cases hj
       rw [List.getElem?_range hjl] at hj
       cases hj
       have hkl := (List.getElem?_eq_some_iff.1 hk).1
       rw [(hcell j (by omega)).1] at hkl
       have h2 := (hcell j (by omega)).2 k hkl
       rw [hk,add_none] at h2
       rw [qti]
       simp only [slcB,slcO]
       rw [Nat.add_assoc]
       exact h2
   · obtain ⟨i, hi, rfl⟩ := List.mem_map.1 hc
     exact ⟨n',_,(hG i (by have := List.mem_range.1 hi; omega)).2⟩
theorem qm2 {α : Type} {f : α → List Value} {p : α → Prop} {xss : List (List Value)} (h : ∀ c ∈ xss,∃ a,c = f a ∧ p a) : ∃ zs : List α,xss = zs.map f ∧ ∀ a ∈ zs,p a := by
 induction xss with
 | nil => exact ⟨[],rfl,fun a h => by cases h⟩
 | cons c l ih =>
   obtain ⟨zs,h1,h2⟩ := ih fun c hc => h c (List.mem_cons_of_mem _ hc)
   obtain ⟨a,ha,hp⟩ := h c List.mem_cons_self
   exact ⟨a :: zs, by rw [ha, h1]; rfl, fun b hb => by
     rcases List.mem_cons.1 hb with rfl | hb
     · exact hp
     · exact h2 b hb⟩
end
end Go.Tw
namespace Go.Tw
open Go Go.RowKit
section
variable {P : Program} {Q : Exit → Act → World → Prop} {n : Nat} {D : List Deferred} {E : Env} {S : World → Prop} {ops : Array Oper} {fuel i : Nat} {listed listed' : Array Bool} {rs : List Nat}
structure TA (P : Program) (ops : Array Oper) (Q : Exit → Act → World → Prop) (fuel : Nat) (listed : Array Bool) (n : Nat) (D : List Deferred) (E : Env) (S : World → Prop) : Prop where
 out : ∀ a w,Fits n D E a → S w → wpAny P .any ops Q fuel listed a w
structure TW (P : Program) (ops : Array Oper) (Q : Exit → Act → World → Prop) (fuel : Nat) (listed : Array Bool) (i : Nat) (n : Nat) (D : List Deferred) (E : Env) (S : World → Prop) : Prop where
 out : ∀ a w,Fits n D E a → S w → wpOp P ops Q i (wpAny P .any ops Q fuel (listed.setIfInBounds i true)) a w
inductive TWs (P : Program) (ops : Array Oper) (Q : Exit → Act → World → Prop) (fuel : Nat) (listed : Array Bool) (n : Nat) (D : List Deferred) (E : Env) (S : World → Prop) : List Nat → Prop
 | nil : TWs P ops Q fuel listed n D E S []
 | cons {i : Nat} {rs : List Nat} : TW P ops Q fuel listed i n D E S → TWs P ops Q fuel listed n D E S rs → TWs P ops Q fuel listed n D E S (i :: rs)
theorem TWs.get (h : TWs P ops Q fuel listed n D E S rs) : ∀ i ∈ rs,TW P ops Q fuel listed i n D E S := by
 induction h with
 | nil => intro i hi; cases hi
 | cons h1 _ ih =>
   intro i hi
   rcases List.mem_cons.1 hi with rfl | hi
   · exact h1
   · exact ih i hi
theorem zv (hr : Region.ready .any ops listed = []) (h : TE Q .normal n D E S) : TA P ops Q 0 listed n D E S := ⟨fun a w ha hw => ⟨hr,h.out a w ha hw⟩⟩
theorem a_go (rs : List Nat) (hr : Region.ready .any ops listed = rs) (hne : rs.isEmpty = false) (h : TWs P ops Q fuel listed n D E S rs) : TA P ops Q (fuel + 1) listed n D E S := ⟨fun a w ha hw => by
 subst hr
 refine ⟨fun h0 => ?_,fun i hi => (h.get i hi).out a w ha hw⟩
 rw [h0] at hne
 cases hne⟩
theorem a_op {o : Oper} (listed' : Array Bool) (ho : ops[i]? = some o) (hl : listed.setIfInBounds i true = listed') (h : TL false P ops (Exit.then (wpAny P .any ops Q fuel listed') Q) [o] n D E S) : TW P ops Q fuel listed i n D E S := ⟨fun a w ha hw => by
 have h1 := h.out a w ha hw
 subst hl
 change wpList P ops _ [o] a w at h1
 unfold wpList at h1
 unfold wpOp
 simp only [ho]
 split at h1
 · rename_i hwt
   rw [if_pos hwt]
   rcases h1 with h1 | ⟨h1,h2⟩
   · exact .inl (qgo (fun a w h => h) (fun _ _ _ q => q) (fun q => q) h1)
   · exact .inr ⟨h1,h2⟩
 · rename_i hwt
   rw [if_neg hwt]
   exact h1⟩
theorem qt (h : TA P ops Q fuel listed n D E S) : TE (Exit.then (wpAny P .any ops Q fuel listed) Q) .normal n D E S := ⟨fun a w ha hw => h.out a w ha hw⟩
theorem qi9 {id m : Nat} {l : List Oper} (hm : P.follows .mixedOrders = true) (hn : l.length = m) (hd : ∀ w, S w → S { w with drawn := w.drawn + 1 }) (h : TA P l.toArray Q m (Array.replicate m false) n D E S) : TC P (.region id l.toArray true) Q n D E S := ⟨fun a w ha hw => by
 refine wp_region_any hm ?_
 have := h.out a _ ha (hd w hw)
 subst hn
 exact this⟩
end
end Go.Tw
namespace Go.Tw
open Go Go.RowKit
def qja : Op → Bool
 | .move .. | .assign .. | .load .. | .binOp .. | .unOp .. | .convert .. | .fieldAddr .. | .field .. | .indexAddr .. | .index .. | .extract .. | .slice .. | .build .. | .pick .. | .makeFunc .. | .nilCheck .. => true
 | .call c => match c.callee with
   | .builtin .len => true
   | .builtin .cap => true
   | .builtin .max => true
   | .builtin .min => true
   | _ => false
 | _ => false
theorem qm3 {P : Program} {w w' : World} {x : Next} {m : Sem Value} (h : (do pure (Next.value (← m)) : Sem Next).run P w = .ok x w') : ∃ u,x = .value u := by
 rw [Sem.run_bind] at h
 cases hm : m.run P w with
 | ok u w1 => rw [hm] at h; cases h; exact ⟨u,rfl⟩
 | halt e w1 => rw [hm] at h; cases h
class QP (Q : Exit → Act → World → Prop) : Prop where
 out : ∀ c a d v w,Q (.panic c) (Act.put a d v) w → Q (.panic c) a w
instance qp_bp {P : Program} {fn : Func} {R : Value → World → Prop} : QP (BP P fn R) := ⟨fun c a d v w h => by
 obtain ⟨_,u,h1,_⟩ := h
 cases h1⟩
instance qp_then {K : Act → World → Prop} {Q : Exit → Act → World → Prop} [h : QP Q] : QP (Exit.then K Q) := ⟨fun c a d v w q => h.out c a d v w q⟩
instance qp_blk {i : Nat} {Q : Exit → Act → World → Prop} [h : QP Q] : QP (Exit.inBlock i Q) := ⟨fun c a d v w q => h.out c a d v w q⟩
instance qp_scp {Q : Exit → Act → World → Prop} [h : QP Q] : QP (Exit.noGoto Q) := ⟨fun c a d v w q => h.out c a d v w q⟩
section
variable {P : Program} {Q : Exit → Act → World → Prop} {n : Nat} {D : List Deferred} {E : Env} {S : World → Prop}
theorem qun {c : Code} (h : TC P c (Exit.noGoto Q) n D E S) : TC P (.scope c) Q n D E S := ⟨fun a w ha hw => wp_scope_straight (h.out a w ha hw)⟩
theorem sc_r (h : TE Q .ret n D E S) : TE (Exit.noGoto Q) .ret n D E S := ⟨h.out⟩
end
section
variable {P : Program} {Q : Exit → Act → World → Prop} {n : Nat} {D : List Deferred} {E : Env} {S S0 : World → Prop} {ops : Array Oper} {fuel i : Nat} {listed listed' : Array Bool} {rs : List Nat}
structure TAH (P : Program) (ops : Array Oper) (Q : Exit → Act → World → Prop) (S0 : World → Prop) (fuel : Nat) (listed : Array Bool) (n : Nat) (D : List Deferred) (E : Env) (S : World → Prop) : Prop where
 out : ∀ a w,Fits n D E a → S w → wpAnyH P .any ops Q S0 fuel listed a w
structure TWH (P : Program) (ops : Array Oper) (Q : Exit → Act → World → Prop) (S0 : World → Prop) (fuel : Nat) (listed : Array Bool) (i : Nat) (n : Nat) (D : List Deferred) (E : Env) (S : World → Prop) : Prop where
 out : ∀ a w,Fits n D E a → S w → wpOp P ops Q i (fun a' w' => S0 w' ∧ wpAnyH P .any ops Q S0 fuel (listed.setIfInBounds i true) a' w') a w
inductive TWHs (P : Program) (ops : Array Oper) (Q : Exit → Act → World → Prop) (S0 : World → Prop) (fuel : Nat) (listed : Array Bool) (n : Nat) (D : List Deferred) (E : Env) (S : World → Prop) : List Nat → Prop
 | nil : TWHs P ops Q S0 fuel listed n D E S []
 | cons {i : Nat} {rs : List Nat} : TWH P ops Q S0 fuel listed i n D E S → TWHs P ops Q S0 fuel listed n D E S rs → TWHs P ops Q S0 fuel listed n D E S (i :: rs)
theorem TWHs.get (h : TWHs P ops Q S0 fuel listed n D E S rs) : ∀ i ∈ rs,TWH P ops Q S0 fuel listed i n D E S := by
 induction h with
 | nil => intro i hi; cases hi
 | cons h1 _ ih =>
   intro i hi
   rcases List.mem_cons.1 hi with rfl | hi
   · exact h1
   · exact ih i hi
theorem qn (hr : Region.ready .any ops listed = []) (h : TE Q .normal n D E S) : TAH P ops Q S0 0 listed n D E S := ⟨fun a w ha hw => ⟨hr,h.out a w ha hw⟩⟩
theorem h_go (rs : List Nat) (hr : Region.ready .any ops listed = rs) (hne : rs.isEmpty = false) (h : TWHs P ops Q S0 fuel listed n D E S rs) : TAH P ops Q S0 (fuel + 1) listed n D E S := ⟨fun a w ha hw => by
 subst hr
 refine ⟨fun h0 => ?_,fun i hi => (h.get i hi).out a w ha hw⟩
 rw [h0] at hne
 cases hne⟩
theorem h_op {o : Oper} (listed' : Array Bool) (ho : ops[i]? = some o) (hl : listed.setIfInBounds i true = listed') (h : TL false P ops (Exit.then (fun a' w' => S0 w' ∧ wpAnyH P .any ops Q S0 fuel listed' a' w') Q) [o] n D E S) : TWH P ops Q S0 fuel listed i n D E S := ⟨fun a w ha hw => by
 have h1 := h.out a w ha hw
 subst hl
 change wpList P ops _ [o] a w at h1
 unfold wpList at h1
 unfold wpOp
 simp only [ho]
 split at h1
 · rename_i hwt
   rw [if_pos hwt]
   rcases h1 with h1 | ⟨h1,h2⟩
   · exact .inl (qgo (fun a w h => h) (fun _ _ _ q => q) (fun q => q) h1)
   · exact .inr ⟨h1,h2⟩
 · rename_i hwt
   rw [if_neg hwt]
   exact h1⟩
theorem qup (hS : ∀ w,S w → S0 w) (h : TAH P ops Q S0 fuel listed n D E S) : TE (Exit.then (fun a' w' => S0 w' ∧ wpAnyH P .any ops Q S0 fuel listed a' w') Q) .normal n D E S := ⟨fun a w ha hw => ⟨hS w hw,h.out a w ha hw⟩⟩
theorem quq {id m : Nat} {l : List Oper} (S0 : World → Prop) (hm : P.follows .mixedOrders = true) (hn : l.length = m) (hd : ∀ w, S w → S { w with drawn := w.drawn + 1 }) (h : TAH P l.toArray Q S0 m (Array.replicate m false) n D E S) : TC P (.region id l.toArray true) Q n D E S := ⟨fun a w ha hw => by
 refine wp_region_held (S := S0) hm ?_
 have := h.out a _ ha (hd w hw)
 subst hn
 exact this⟩
theorem yb {id m : Nat} {l : List Oper} {w0 : World} {X : List Nat} {I : Hp} {B R : List Item} (B0 : List Item) (hB : qac B0 B R) (hm : P.follows .mixedOrders = true) (hn : l.length = m) (h : TAH P l.toArray Q (St w0 X I B0) m (Array.replicate m false) n D E (St w0 X I B)) : TC P (.region id l.toArray true) Q n D E (St w0 X I B) :=
 quq (St w0 X I B0) hm hn (fun _ h => h.drawn) h
theorem qur {o : Oper} {d : Nat} {v : Value} (listed' : Array Bool) (ho : ops[i]? = some o) (hd : o.dst = some d) (hval : qja o.op = true) (hs : Region.noSelect ops = true) (hf : Region.free .any ops listed i = true) (hr : (Region.ready .any ops listed).contains i = true) (hl : listed.setIfInBounds i true = listed') (hQ : QP Q)
   (hS : ∀ w,S w → S0 w) (h : TL true P ops (fun _ a' _ => Fits n D ((d,v) :: E) a') [o] n D E S0) (k : TAH P ops Q S0 fuel listed' n D ((d,v) :: E) S) : TAH P ops Q S0 (fuel + 1) listed n D E S := ⟨fun a w ha hw => by
 have h1 := h.out a w ha (hS w hw)
 subst hl
 change wpQuiet P ops S0 _ [o] a at h1
 unfold wpQuiet at h1
 have key : ∃ u,YieldsIf P ops S0 o u a ∧ Fits n D ((d,v) :: E) (a.put o.dst u) := by
   split at h1
   · rename_i hwt
     obtain ⟨u,h2,h3⟩ := h1
     refine ⟨u,.inl ⟨hwt,fun w' hw' => ?_⟩,h3 w (hS w hw)⟩
     have h4 := h2 w' hw'
     unfold Oper.quietAt at h4
     cases hr' : (execOp a.eval o).run P w' with
     | halt e w1 => rw [hr'] at h4; exact h4.elim
     | ok x w1 =>
       have hx : ∃ u',x = .value u' := by
         unfold execOp at hr'
         revert hr' hval
         cases o.op <;> intro hval hr' <;> simp only [qja,Bool.false_eq_true] at hval <;> simp only at hr'
         all_goals first
           | exact qm3 hr'
           | (cases hr'; exact ⟨_,rfl⟩)
           | skip
         · rename_i c x1 x2
           rw [Sem.run_bind] at hr'
           cases hb : (asBool (a.eval c)).run P w' with
           | ok b w2 => rw [hb] at hr'; cases hr'; exact ⟨_,rfl⟩
           | halt e w2 => rw [hb] at hr'; cases hr'
         · repeat' split at hr'
           all_goals first
             | (cases hr'; exact ⟨_,rfl⟩)
             | (simp [runtimePanic] at hr'; done)
             | (simp [runtimePanic, unsupported] at hr'
                generalize (Sem.run P (nilAhead _ _ _ _) w') = res at hr'
                cases res with
                | ok a w2 =>
                  simp only [Result.andThen] at hr'
                  split at hr'
                  · cases hr'; exact ⟨_,rfl⟩
                  · cases hr'
                | halt e w2 => cases hr')
         · rename_i c
           cases hc : c.callee with
           | builtin b =>
             rw [hc] at hval
             have e : (do let d ← resolve a.eval c o.type; invoke d.target d.args : Sem Next).run P w' = (builtin b c.argTypes o.type (c.args.map fun | .const _ => true | _ => false) (c.args.map a.eval)).run P w' := by
               simp only [resolve,hc,Sem.run_bind,Sem.run_pure,Result.andThen_ok,invoke]
               rfl
             rw [e] at hr'
             cases b <;> simp only [Bool.false_eq_true] at hval <;> simp only [builtin] at hr' <;> exact qm3 hr'
           | invoke x y => rw [hc] at hval; cases hval
           | value x => rw [hc] at hval; cases hval
       obtain ⟨u',rfl⟩ := hx
       rw [hr'] at h4
       obtain ⟨h5,h6⟩ := h4
       rw [h5,h6]
   · rename_i hwt
     exact ⟨undef,.inr ⟨by simpa using hwt,rfl⟩,h1 w (hS w hw)⟩
 obtain ⟨u,hy,hfit⟩ := key
 exact wpAnyH_take ho hs hf hr (fun c a' w' q => hQ.out c a' o.dst u w' q) hy (hS w hw) (k.out _ _ hfit hw)⟩
end
end Go.Tw
namespace Go.Tw
open Go Go.RowKit
def pe (pv : Value) : List PanicEntry := [{ v := pv,recovered := false }]
def FunX (P : Program) (f : FuncId) (vs : List Value) (I : Hp) (Bc : List Item) (pv : Value) : Prop :=
 ∀ w,St w (je Bc) I Bc w → Calls P f vs.toArray w fun e w' => e = .panicked (pe pv) ∧ St w (je Bc) I [] w'
def BPX (P : Program) (fn : Func) (pv : Value) (R : World → Prop) : Exit → Act → World → Prop := bodyPost P fn fun e w' => e = .panicked (pe pv) ∧ R w'
instance qp_bpx {P : Program} {fn : Func} {pv : Value} {R : World → Prop} : QP (BPX P fn pv R) := ⟨fun c a d v w h => by cases d <;> exact ⟨h.1,h.2⟩⟩
section
variable {P : Program} {Q : Exit → Act → World → Prop} {n : Nat} {D : List Deferred} {E : Env} {S S' : World → Prop} {ops : Array Oper} {rest : List Oper} {d : Nat} {ty : TypeId} {pos : String} {aft : Array Edge} {g : Option (Nat × Bool)} {v : Value} {w0 : World} {X : List Nat} {I : Hp} {B : List Item} {K : Act → World → Prop}
theorem qus {f : FuncId} {fn : Func} {c : Code} {args : List Value} {R : Ending → World → Prop} (E : Env) (n : Nat) (hf : P.funcs[f]? = some fn) (hb : fn.body = some c) (hn : fn.ntmps = n) (hs : Nat.ble args.length n = true)
   (hE : ∀ i v,look E i = some v → args[i]? = some v) (h : TC P c (bodyPost P fn R) n [] E S) {w : World} (hw : S w) : Calls P f args.toArray w R := by
 have hs' : args.length ≤ n := by simpa using hs
 refine calls_of_wp hf hb (h.out _ _ ⟨?_,rfl,?_⟩ hw)
 · simp [hn]; omega
 · intro i v hi
   have h1 := hE i v hi
   rw [Array.getD_eq_getD_getElem?,Array.getElem?_append]
   obtain ⟨hlt,h2⟩ := List.getElem?_eq_some_iff.1 h1
   simp [hlt,h2]
theorem qut {f : FuncId} {fn : Func} {c : Code} {args : List Value} {R : Ending → World → Prop} (E : Env) (n : Nat) (hf : P.funcs[f]? = some fn) (hb : fn.body = some c) (hn : fn.ntmps = n) (hs : Nat.ble args.length n = true)
   (hE : ∀ i v,look E i = some v → args[i]? = some v) (h : TC P c (bodyPostD P fn R) n [] E S) {w : World} (hw : S w) : Calls P f args.toArray w R := by
 have hs' : args.length ≤ n := by simpa using hs
 refine calls_of_wp_defers hf hb (h.out _ _ ⟨?_,rfl,?_⟩ hw)
 · simp [hn]; omega
 · intro i v hi
   have h1 := hE i v hi
   rw [Array.getD_eq_getD_getElem?,Array.getElem?_append]
   obtain ⟨hlt,h2⟩ := List.getElem?_eq_some_iff.1 h1
   simp [hlt,h2]
theorem arg2 {a0 a1 : Value} : ∀ i v, look [(0, a0), (1, a1)] i = some v → ([a0, a1] : List Value)[i]? = some v := fun i v hi => by
 match i,hi with
 | 0,hi => exact hi
 | 1,hi => exact hi
 | i + 2,hi => cases hi
theorem qm4 {f : FuncId} {fn : Func} {c : Code} {a0 a1 pv : Value} {R : World → Prop} (n : Nat) (hf : P.funcs[f]? = some fn) (hb : fn.body = some c) (hn : fn.ntmps = n) (hs : Nat.ble 2 n = true)
 (h : TC P c (BPX P fn pv R) n [] [(0,a0),(1,a1)] S) {w : World} (hw : S w) : Calls P f #[a0,a1] w fun e w' => e = .panicked (pe pv) ∧ R w' := qus (args := [a0,a1]) _ n hf hb hn hs arg2 h hw
theorem quu {f : FuncId} {fn : Func} {c : Code} {a0 a1 : Value} {R : Value → World → Prop} (n : Nat) (hf : P.funcs[f]? = some fn) (hb : fn.body = some c) (hn : fn.ntmps = n) (hs : Nat.ble 2 n = true)
 (h : TC P c (bodyPostD P fn fun e w' => ∃ v,e = .returned v ∧ R v w') n [] [(0,a0),(1,a1)] S) {w : World} (hw : S w) : Ret P f #[a0,a1] w R := qut (args := [a0,a1]) _ n hf hb hn hs arg2 h hw
theorem retX {fn : Func} {pv : Value} {R : World → Prop} (h : ∀ w,S w → R w) : TE (BPX P fn pv R) (.panic (pe pv)) n [] E S := ⟨fun a w ha hw => ⟨ha.defs,rfl,h w hw⟩⟩
theorem qjb {w : World} {X : List Nat} {I I' : Hp} {B : List Item} (he : I.Le I') : ∀ w',St w X I' B w' → St w X I [] w' := fun _ hw => (hw.drop (List.nil_sublist _)).fewer he
theorem qc7 {w : World} {e : TypeId} {size nn : Nat} {u v : Value} {xss : List (List Value)} {I I1 : Hp} {B : List Item} {R : Value → Hp → List Item → Prop} (he : Ext w.heap.size I I1) (hn : xss.length = nn) (hlen : ∀ c ∈ xss, c.length = size) (hm : nn ≤ maxLen) (h : ∀ I', I1.Le I' → Slc I' size u xss → R v I' []) :
   ∀ w',St w [] I1 (.row u e size nn xss.flatten :: B) w' → Post w [] I R v w' := fun w' hw' => by
 obtain ⟨I',h1,h2,h3⟩ := hw'.sealRow hn hlen hm
 exact ⟨I',[],h1.drop (List.nil_sublist _),he.trans h2 (Nat.le_refl _),h I' h2.le h3⟩
theorem vq {l : List Oper} {e : TypeId} {size nn : Nat} {u : Value} {xs : List Value} (hB : Item.row u e size nn xs ∈ B)
   (k : u.cells = [u].toArray ∧ u.oneCell' = true → TL false P ops Q l n D E (St w0 X I B)) : TL false P ops Q l n D E (St w0 X I B) := ⟨fun a w ha hw => by
 have hown : w.ownsRow 0 e size u nn xs := hw.own _ hB
 have hv : u.cells = [u].toArray ∧ u.oneCell' = true := by
   rcases hown.2 with ⟨rfl,h⟩ | ⟨gg,cap,cur,rfl,_⟩
   · exact ⟨rfl,rfl⟩
   · exact ⟨rfl,rfl⟩
 exact (k hv).out a w ha hw⟩
theorem quv {x : Operand} {T : TypeId} {u : Value} (hg : qi ops E g) (hx : ev E x = some (.iface T u)) (k : TE Q (.panic (pe (.iface T u))) n D E S) : TL false P ops Q (⟨none, .panic x, ty, pos, aft, g⟩ :: rest) n D E S := ⟨fun a w ha hw => by
 refine qbb (z7 hg ha) ?_
 unfold Oper.wp
 have h1 : (execOp a.eval ⟨none,.panic x,ty,pos,aft,g⟩).run P w = .halt (.panic (.iface T u)) w := by
   simp only [execOp,ha.ev hx]; rfl
 rw [h1]
 exact k.out _ _ ha hw⟩
theorem quw {qm : Bool} {t : TypeId} {x : Operand} {kd : IntKind} {z : Int} (hg : qi ops E g) (hd : Nat.blt d n = true) {ku : IntKind} (hu : P.underlying t = some (.int ku)) (hx : ev E x = some (.int kd z))
   (k : TL qm P ops Q rest n D ((d,.iface t (.int kd z)) :: E) S) : TL qm P ops Q (⟨some d,.makeInterface t x,ty,pos,aft,g⟩ :: rest) n D E S :=
 o_rd hg hd (v := .iface t (.int kd z)) (fun a w ha hw d pos aft g => ⟨w,by simp only [execOp,ha.ev hx,Instr.makeInterface,Sem.run_bind,run_underlying hu,Result.andThen_ok,Sem.run_pure],rfl⟩) k
theorem qbi {f : FuncId} {args : List Operand} {ats : Array TypeId} {vs : List Value} {Bc B0 : List Item} {pv : Value} (hg : qi ops E g) (he : ∀ args w, (callFunc f args).run P w = .ok (.enter f args) w) (ha : evs E args = some vs)
   (hc : FunX P f vs I Bc pv) (hB : qac Bc B B0) (k : TE Q (.panic (pe pv)) n D E (St w0 X I B0)) :
   TL false P ops Q (⟨some d,.call { callee := .value (.func f),args := args.toArray,argTypes := ats },ty,pos,aft,g⟩ :: rest) n D E (St w0 X I B) := ⟨fun a w hf hw => by
 refine qbb (z7 hg hf) ?_
 have hargs : (args.toArray.map a.eval) = vs.toArray := by
   rw [List.map_toArray,hf.evs ha]
 have hrun : (execOp a.eval ⟨some d,.call { callee := .value (.func f),args := args.toArray,argTypes := ats },ty,pos,aft,g⟩).run P w = .ok (.enter f vs.toArray) w := by
   simp only [execOp,resolve,Act.eval,Deferred.ofValue,hargs,Sem.run_bind,Sem.run_pure,Result.andThen_ok,invoke]
   simpa using he vs.toArray w
 unfold Oper.wp
 rw [hrun]
 have hw2 : St w0 X I (Bc ++ B0) w := hw.perm hB.perm
 refine Calls.mono (hc w hw2.forCall) ?_;rintro e w'' ⟨rfl,h1⟩
 have h2 := (St.call hw2 h1 (Ext.refl _ _)).1
 exact k.out _ _ hf h2⟩
def qfl (f : FuncId) (caps : List Value) : Deferred := { target := .fn (.func f) caps.toArray,args := #[] }
theorem qux {f : FuncId} {x : Operand} {caps : List Value} (hg : qi ops E g) (hx : ev E x = some (.func (.func f) #[] caps.toArray))
   (k : TL false P ops Q rest n (qfl f caps :: D) E S) : TL false P ops Q (⟨none,.defer { callee := .value x,args := #[],argTypes := #[] },ty,pos,aft,g⟩ :: rest) n D E S := ⟨fun a w ha hw => by
 refine qbb (z7 hg ha) ?_
 unfold Oper.wp
 have h1 : (execOp a.eval ⟨none,.defer { callee := .value x,args := #[],argTypes := #[] },ty,pos,aft,g⟩).run P w = .ok (.defer (qfl f caps)) w := by
   simp only [execOp,resolve,ha.ev hx,Deferred.ofValue,Sem.run_bind,Sem.run_pure,Result.andThen_ok]
   simp [qfl]
 rw [h1]
 exact k.out _ _ ⟨ha.size,by show _ :: a.defers = _; rw [ha.defs],ha.get⟩ hw⟩
theorem qm5 {f : FuncId} {caps : List Value} (he : ∀ args w,(callFunc f args).run P w = .ok (.enter f args) w) (w : World) : (invoke (.fn (.func f) caps.toArray) #[]).run P w = .ok (.enter f caps.toArray) w := by
 have e := he caps.toArray w
 simp only [invoke]
 simpa using e
theorem retD {fn : Func} {f : FuncId} {caps : List Value} {rs : List ResultVar} {vs : List Value} {R : Value → World → Prop} {B' : List Item} (hres : fn.results = rs.toArray) (he : ∀ args w, (callFunc f args).run P w = .ok (.enter f args) w)
   (hc : ∀ w,St w0 X I B w → CallsD P f caps.toArray .returning w fun e u' w' => (∃ x,e = .returned x) ∧ u' = .returning ∧ St w0 X I B' w')
   (hr : Res P E B' rs vs) (h : ∀ w,St w0 X I B' w → R (tup vs) w) : TE (bodyPostD P fn fun e w' => ∃ v,e = .returned v ∧ R v w') .ret n [qfl f caps] E (St w0 X I B) := ⟨fun a w ha hw => by
 show Leaves P fn a.tmps _ a.defers .returning w
 rw [ha.defs]
 refine leaves_cons (f := f) (args := caps.toArray) (by simp) (qm5 he w) ?_;refine (hc w hw).mono ?_;rintro e u' w' ⟨⟨x,rfl⟩,rfl,hw'⟩;exact leaves_end hres hr h ha hw'⟩
where
 leaves_end {fn : Func} {rs : List ResultVar} {vs : List Value} {R : Value → World → Prop} {B' : List Item} {D : List Deferred} (hres : fn.results = rs.toArray) (hr : Res P E B' rs vs) (h : ∀ w,St w0 X I B' w → R (tup vs) w) {a : Act} {w' : World} (ha : Fits n D E a) (hw' : St w0 X I B' w') : Leaves P fn a.tmps (fun e w' => ∃ v,e = .returned v ∧ R v w') [] .returning w' := by
   have hrun := hr.run ha hw'
   refine ⟨tup vs,?_,_,rfl,h w' hw'⟩
   simp only [results,hres,List.mapM_toArray,Sem.run_bind,Sem.run_map]
   erw [hrun]
   simp only [Result.andThen_ok,Sem.run_pure]
   cases vs with
   | nil => rfl
   | cons v r => cases r with
     | nil => rfl
     | cons v2 r => simp [tup]
theorem panD {fn : Func} {f : FuncId} {pv : Value} {caps : List Value} {rs : List ResultVar} {vs : List Value} {R : Value → World → Prop} {B' : List Item} (hres : fn.results = rs.toArray) (he : ∀ args w, (callFunc f args).run P w = .ok (.enter f args) w)
   (hc : ∀ w,St w0 X I B w → CallsD P f caps.toArray (.panicking (pe pv)) w fun e u' w' => (∃ x,e = .returned x) ∧ u' = .panicking [{ v := pv,recovered := true }] ∧ St w0 X I B' w')
   (hr : Res P E B' rs vs) (h : ∀ w,St w0 X I B' w → R (tup vs) w) : TE (bodyPostD P fn fun e w' => ∃ v,e = .returned v ∧ R v w') (.panic (pe pv)) n [qfl f caps] E (St w0 X I B) := ⟨fun a w ha hw => by
 show Leaves P fn a.tmps _ a.defers (.panicking (pe pv)) w
 rw [ha.defs]
 refine leaves_cons (f := f) (args := caps.toArray) (by simp) (qm5 he w) ?_;refine (hc w hw).mono ?_;rintro e u' w' ⟨⟨x,rfl⟩,rfl,hw'⟩;exact retD.leaves_end hres hr h ha hw'⟩
end
end Go.Tw
namespace Go.Tw
open Go Go.RowKit
section
variable {F : Fence} {P : Program} {Q : Exit → Act → World → Prop} {n : Nat} {D : List Deferred} {E : Env} {S S' : World → Prop} {ops : Array Oper} {is : List Nat} {i d : Nat} {op : Op} {ty : TypeId} {pos : String} {aft : Array Edge} {v : Value}
def qjc : Op → Bool
 | .defer _ => false
 | _ => true
theorem qm6 {op : Op} (h : qjc op = true) : ∀ c,op ≠ .defer c := fun c e => by subst e; cases h
structure TI (F : Fence) (P : Program) (ops : Array Oper) (Q : Exit → Act → World → Prop) (is : List Nat) (n : Nat) (D : List Deferred) (E : Env) (S : World → Prop) : Prop where
 out : ∀ a w,Fits n D E a → S w → wpOpsIn F 0 P ops Q is a w
structure TCI (F : Fence) (P : Program) (c : Code) (Q : Exit → Act → World → Prop) (n : Nat) (D : List Deferred) (E : Env) (S : World → Prop) : Prop where
 out : ∀ a w,Fits n D E a → S w → c.wpIn F 0 P Q a w
theorem qjd (h : TE Q .normal n D E S) : TI F P ops Q [] n D E S := ⟨fun a w ha hw => h.out a w ha hw⟩
theorem qfm (hF : ∀ f, F.fn f) (ho : ops[i]? = some ⟨some d, op, ty, pos, aft, none⟩) (hnd : qjc op = true) (hd : Nat.blt d n = true) (hr : qgl P n D E op ty S v) (k : TI F P ops Q is n D ((d, v) :: E) S) : TI F P ops Q (i :: is) n D E S := ⟨fun a w ha hw => by
 unfold wpOpsIn
 simp only [ho]
 rw [if_pos (by simp [Region.wanted])]
 refine ⟨fun f _ => hF f,?_⟩
 rw [Oper.semAt_eq _ _ _ (qm6 hnd)]
 obtain ⟨w',h1,h2⟩ := hr a w ha hw (some d) pos aft none
 rw [h1]
 subst h2
 exact k.out _ _ (ha.put hd v) hw⟩
theorem quy (hF : ∀ f, F.fn f) (ho : ops[i]? = some ⟨none, op, ty, pos, aft, none⟩) (hnd : qjc op = true) (hr : qif P n D E op ty S S') (k : TI F P ops Q is n D E S') : TI F P ops Q (i :: is) n D E S := ⟨fun a w ha hw => by
 unfold wpOpsIn
 simp only [ho]
 rw [if_pos (by simp [Region.wanted])]
 refine ⟨fun f _ => hF f,?_⟩
 rw [Oper.semAt_eq _ _ _ (qm6 hnd)]
 obtain ⟨w',h1,h2⟩ := hr a w ha hw none pos aft none
 rw [h1]
 exact k.out _ _ ha h2⟩
theorem quz {c x : Operand} {ats : Array TypeId} {l : Nat} {r : Loop} {y : Value} (ho : ops[i]? = some ⟨some d, .call { callee := .value c, args := #[x], argTypes := ats }, ty, pos, aft, none⟩) (hd : Nat.blt d n = true) (hc : ev E c = some (.func (.yield l) #[] #[])) (hx : ev E x = some y) {p : Tmp} (hp : r.params = #[p])
   (hr : ∀ w,S w → w.heap[l]? = some (.loop r)) (hy : ∀ w,S w → RoundIn Fence.wide 0 P l r.fn (r.tmps.setIfInBounds p y) r.assign r.body w (fun e w' => e = .returned (.bool true) ∧ S' w'))
   (k : TI Fence.wide P ops Q is n D ((d,.bool true) :: E) S') : TI Fence.wide P ops Q (i :: is) n D E S := ⟨fun a w ha hw => by
 unfold wpOpsIn
 simp only [ho]
 rw [if_pos (by simp [Region.wanted])]
 refine ⟨fun f _ => trivial,?_⟩
 rw [Oper.semAt_eq _ _ _ (fun c h => by cases h)]
 have hyi := run_yield (P := P) (w := w) (l := l) (r := r) (args := #[y]) (hr w hw) (by rw [hp]; rfl)
 have hz : (r.params.zip #[y]).foldl (fun tmps (t,a) => tmps.setIfInBounds t a) r.tmps = r.tmps.setIfInBounds p y := by rw [hp]; simp
 rw [hz] at hyi
 have e : (execOp a.eval ⟨some d,.call { callee := .value c,args := #[x],argTypes := ats },ty,pos,aft,none⟩).run P w = .ok (.round l r.fn (r.tmps.setIfInBounds p y) r.assign r.body) w := by
   simp only [execOp,resolve,Deferred.ofValue,ha.ev hc,ha.ev hx,List.map_toArray,List.map_cons,List.map_nil,Sem.run_bind,Sem.run_pure,Result.andThen_ok,invoke,Array.append_empty,Array.empty_append]
   exact hyi
 rw [e]
 refine ⟨fun h => (by cases h),?_⟩;refine (hy w hw).mono ?_;rintro e' w' ⟨rfl,hS⟩;exact k.out _ _ (ha.put hd _) hS⟩
theorem c_ti {id m : Nat} {l : List Oper} (hl : l.length = m) (h : TI Fence.wide P l.toArray Q (List.range m) n D E S) : TC P (.region id l.toArray false) Q n D E S := ⟨fun a w ha hw => (wpIn_wide (n := 0)).1 (wpIn_region (by subst hl; exact h.out a w ha hw))⟩
theorem qm7 {id m : Nat} {l : List Oper} (hl : l.length = m) (h : TI F P l.toArray Q (List.range m) n D E S) : TCI F P (.region id l.toArray false) Q n D E S := ⟨fun a w ha hw => wpIn_region (by subst hl; exact h.out a w ha hw)⟩
theorem qu0 {id : Nat} {c : Code} (h : TCI F P c (Exit.inBlock id Q) n D E S) : TCI F P (.block id c) Q n D E S := ⟨fun a w ha hw => wpIn_block (h.out a w ha hw)⟩
end
section
variable {P : Program} {Q : Exit → Act → World → Prop} {n : Nat} {D : List Deferred} {E : Env} {w0 : World} {X : List Nat} {I : Hp} {B : List Item}
theorem qu1 {l f : Nat} {tmps : Array Value} {assign body : Code} {r : Loop} {E1 E2 : Env} {B' : List Item} (hr : r.state = .ready) (hfit : Fits n [] E1 { tmps := tmps, defers := [] })
   (ha : TCI (Fence.wide.inRound l) P assign (fun e a w => e = .normal ∧ Fits n [] E2 a ∧ St w0 X I (.box l (.loop r) :: B) w) n [] E1 (St w0 X I (.box l (.loop r) :: B)))
   (hb : TCI (Fence.wide.inRound l) P body (fun e a w => e = .normal ∧ St w0 X I (.box l (.loop { r with state := .busy }) :: B') w) n [] E2 (St w0 X I (.box l (.loop { r with state := .busy }) :: B)))
   {w : World} (hw : St w0 X I (.box l (.loop r) :: B) w) : RoundIn Fence.wide 0 P l f tmps assign body w (fun e w' => e = .returned (.bool true) ∧ St w0 X I (.box l (.loop { r with state := .ready,pending := none }) :: B') w') := by
 have turn : ∀ {Bx : List Item} {w1 : World} {r1 : Loop} (o : Obj), St w0 X I (.box l (.loop r1) :: Bx) w1 → St w0 X I (.box l o :: Bx) (w1.putObj l o) := fun {Bx} {w1} {r1} o h1 =>
   h1.turn .here ⟨rfl,rfl,rfl,by simp,fun k _ hk => World.putObj_heap_other (fun e => hk (by rw [e]; rfl))⟩ (World.putObj_heap_same ((Array.getElem?_eq_some_iff.1 (h1.own (.box l (.loop r1)) List.mem_cons_self)).1)) (fun _ h => .inl h)
 refine roundIn_of_wpIn trivial ?_;refine wpIn_mono (ha.out _ _ hfit hw) ?_;rintro e a1 w1 ⟨rfl,hf1,hs1⟩
 have hl1 : w1.heap[l]? = some (.loop r) := hs1.own (.box l (.loop r)) List.mem_cons_self
 refine ⟨_,run_beginRound hl1 hr,?_⟩;refine wpIn_mono (hb.out _ _ hf1 (turn _ hs1)) ?_;rintro e a2 w2 ⟨rfl,hs2⟩
 have hl2 : w2.heap[l]? = some (.loop { r with state := .busy }) := hs2.own (.box l (.loop { r with state := .busy })) List.mem_cons_self
 exact ⟨_,_,run_endRound none hl2,rfl,turn _ hs2⟩
theorem qu2 {T Tb : TypeId} {p : Operand} {b off : Nat} {cs : List Value} {fz : Nat × Nat} {ty : TypeId} {v : Value} (hagg : ∀ w, (isAgg T).run P w = .ok false w) (hp : ev E p = some (.pointer (some ⟨b, off, none⟩))) (hB : Item.box b (.cells cs.toArray Tb fz) ∈ B) (hr : cs[off]? = some v) : qgl P n D E (.load T p) ty (St w0 X I B) v := fun a w ha hw d pos aft g => ⟨w, by
 have hbox : w.heap[b]? = some (.cells cs.toArray Tb fz) := hw.own _ hB
 have hcell : w.cell? ⟨b,off,none⟩ = some v := by simp [World.cell?,hbox,hr]
 simp [execOp,ha.ev hp,Instr.loadAt,Instr.sureAddr,loadVar,hagg,hcell,Result.andThen],rfl⟩
theorem qu3 {T Tb : TypeId} {p x : Operand} {b : Nat} {v z : Value} {ty : TypeId} {B' : List Item} (hp : ev E p = some (.pointer (some ⟨b, 0, none⟩))) (hx : ev E x = some v) (hc : v.cells = #[v]) (hsz : ∀ w, (sizeOf T).run P w = .ok 1 w) (h1 : v.oneCell' = true)
 (hB : Put B (.box b (.cells #[z] Tb (0,0))) B' (.box b (.cells #[v] Tb (0,0)))) : qif P n D E (.store T p x) ty (St w0 X I B) (St w0 X I B') := fun a w ha hS d pos aft g => by
 have hbox : w.heap[b]? = some (.cells [z].toArray Tb (0,0)) := hS.own _ hB.mem
 have hst := run_storeCells_at P b 0 Tb [v] 0 [z].toArray w hbox (by simp) (by intro y hy; rw [List.mem_singleton.1 hy]; exact h1)
 refine ⟨_,?_,hS.turn hB (w' := w.setRow b [v].toArray) ⟨rfl,rfl,rfl,by simp [World.setRow],fun k hk hne => setRow_other w b k _ (fun e => hne (by rw [e]; rfl))⟩ (setRow_heap w b [z].toArray [v].toArray Tb (0,0) hbox) (fun _ h => .inl h)⟩
 have hv : v.cells.toList = [v] := by rw [hc]
 have hs' : ¬ (v.cells.size ≠ 1) := by rw [hc]; simp
 simp only [execOp,ha.ev hp,ha.ev hx,Instr.storeAt,Instr.sureAddr,storeVar,Sem.run_bind,Sem.run_pure,Result.andThen_ok,hsz,hv,if_neg hs',hst]
 rfl
theorem qu4 {g : Operand} {p : Tmp} {assign body : Code} {gf : FuncId} {caps : List Value} {Bc B0 : List Item} {R : Hp → List Item → Prop} (hg : ev E g = some (.func (.func gf) #[] caps.toArray)) (he : ∀ args w, (callFunc gf args).run P w = .ok (.enter gf args) w) (hB : qac Bc B B0)
   (hit : ∀ (fn : FuncId) (l Dd : Nat) (a : Act),Fits n D E a → Fun P gf (.func (.yield l) #[] #[] :: caps) I (.box l (.loop ⟨.ready,none,fn,a.tmps,#[p],assign,body,Dd⟩) :: Bc) (fun _ I' B' => ∃ r' B1,B' = .box l (.loop r') :: B1 ∧ r'.state = .ready ∧ r'.pending = none ∧ R I' B1))
   (k : ∀ Dd I' B1,Ext w0.heap.size I I' → R I' B1 → TE Q .normal n ({ target := .collected Dd,args := #[] } :: D) E (St w0 X I' (B1 ++ .box Dd (.deferred (some [])) :: B0))) :
   TC P (.rangeFunc g #[p] assign body) Q n D E (St w0 X I B) := ⟨fun a w ha hw => (wpIn_wide (n := 0)).1 (wpIn_rangeFunc fun fn _ => by
 have h1 := hw.new (But.alloc w (.deferred (some []))) (it := .box w.heap.size (.deferred (some []))) (heap_alloc_new w _) (fun b hb => by cases hb; exact Nat.le_refl _)
 have h2 := h1.new (But.alloc _ (.loop ⟨.ready, none, fn, a.tmps, #[p], assign, body, w.heap.size⟩)) (it := .box (w.heap.size + 1) (.loop ⟨.ready, none, fn, a.tmps, #[p], assign, body, w.heap.size⟩)) (by
   have := heap_alloc_new (w.alloc (.deferred (some []))) (.loop ⟨.ready,none,fn,a.tmps,#[p],assign,body,w.heap.size⟩)
   rw [World.size_alloc] at this
   exact this) (fun b hb => by cases hb; rw [World.size_alloc]; exact Nat.le_refl _)
 have h3 : St w0 X I ((.box (w.heap.size + 1) (.loop ⟨.ready,none,fn,a.tmps,#[p],assign,body,w.heap.size⟩) :: Bc) ++ .box w.heap.size (.deferred (some [])) :: B0) _ := h2.perm (List.Perm.cons _ ((List.Perm.cons _ hB.perm).trans List.perm_middle.symm))
 refine ⟨w.heap.size + 1,_,_,{ target := .fn (.func gf) caps.toArray,args := #[.func (.yield (w.heap.size + 1)) #[] #[]] },(w.alloc (.deferred (some []))).alloc (.loop ⟨.ready,none,fn,a.tmps,#[p],assign,body,w.heap.size⟩),gf,_,_,run_enterLoop_outer fn a.tmps #[p] assign body,?_,fun _ _ => trivial,?_,fun h => (by cases h),callsIn_wide.2 (Calls.mono (hit fn (w.heap.size + 1) w.heap.size a ha _ h3.forCall) ?_)⟩
 · have e : a.eval g = .func (.func gf) #[] caps.toArray := ha.ev hg
   simp only [resolve,rangeCall,e,Deferred.ofValue,Sem.run_pure,List.map_toArray,List.map_cons,List.map_nil,Array.empty_append]
   rfl
 · simp only [invoke]
   have := he (#[.func (.yield (w.heap.size + 1)) #[] #[]] ++ caps.toArray) ((w.alloc (.deferred (some []))).alloc (.loop ⟨.ready,none,fn,a.tmps,#[p],assign,body,w.heap.size⟩))
   simpa using this
 · rintro e w' ⟨v, rfl, I', B', h4, h5, r', B1, rfl, hr1, hr2, hR⟩
   obtain ⟨h6,h7⟩ := h3.call h4 h5
   have hl : w'.heap[w.heap.size + 1]? = some (.loop r') := h6.own (.box (w.heap.size + 1) (.loop r')) (List.mem_append.2 (.inl List.mem_cons_self))
   refine ⟨none,w'.putObj (w.heap.size + 1) (.loop { r' with state := .exhausted }),?_,?_⟩
   · rw [run_endLoop hl (by rw [hr1]; decide),hr2]
   · have h8 : St w0 X I' (.box (w.heap.size + 1) (.loop { r' with state := .exhausted }) :: (B1 ++ .box w.heap.size (.deferred (some [])) :: B0)) (w'.putObj (w.heap.size + 1) (.loop { r' with state := .exhausted })) :=
       St.turn (it := .box (w.heap.size + 1) (.loop r')) h6 .here ⟨rfl,rfl,rfl,by simp,fun k _ hk => World.putObj_heap_other (fun e => hk (by rw [e]; rfl))⟩ (World.putObj_heap_same ((Array.getElem?_eq_some_iff.1 hl).1)) (fun _ h => .inl h)
     exact (k w.heap.size I' B1 h7 hR).out _ _ ⟨ha.size,by show _ = _; simp [ha.defs],ha.get⟩ (h8.drop (List.sublist_cons_self _ _)))⟩
def BPM (P : Program) (fn : Func) (R : Value → World → Prop) : Exit → Act → World → Prop := bodyPostM Fence.wide 0 P fn fun e w' => ∃ v,e = .returned v ∧ R v w'
theorem qu5 {f : FuncId} {fn : Func} {c : Code} {args : List Value} {R : Value → World → Prop} {S : World → Prop} (E : Env) (n : Nat) (hf : P.funcs[f]? = some fn) (hb : fn.body = some c) (hn : fn.ntmps = n) (hs : Nat.ble args.length n = true)
   (hE : ∀ i v,look E i = some v → args[i]? = some v) (h : TC P c (BPM P fn R) n [] E S) {w : World} (hw : S w) : Ret P f args.toArray w R := by
 have hs' : args.length ≤ n := by simpa using hs
 refine callsIn_wide.1 (callsIn_of_wp_marks (F := Fence.wide) (n := 0) hf hb trivial ((wpIn_wide (n := 0)).2 (h.out _ _ ⟨?_,rfl,?_⟩ hw)) rfl)
 · simp [hn]; omega
 · intro i v hi
   have h1 := hE i v hi
   rw [Array.getD_eq_getD_getElem?,Array.getElem?_append]
   obtain ⟨hlt,h2⟩ := List.getElem?_eq_some_iff.1 h1
   simp [hlt,h2]
theorem qu6 {f : FuncId} {fn : Func} {c : Code} {a0 a1 : Value} {R : Value → World → Prop} {S : World → Prop} (n : Nat) (hf : P.funcs[f]? = some fn) (hb : fn.body = some c) (hn : fn.ntmps = n) (hs : Nat.ble 2 n = true)
 (h : TC P c (BPM P fn R) n [] [(0, a0), (1, a1)] S) {w : World} (hw : S w) : Ret P f #[a0, a1] w R := qu5 (args := [a0, a1]) _ n hf hb hn hs (fun i v hi => by
   match i,hi with
   | 0,hi => exact hi
   | 1,hi => exact hi
   | i + 2,hi => cases hi) h hw
theorem qu7 {fn : Func} {t Dd : Nat} {v : Value} {R : Value → World → Prop} {B' : List Item} (hres : fn.results = #[.tmp t]) (hv : look E t = some v) (hB : Take (.box Dd (.deferred (some []))) B B') (h : ∀ w, St w0 X I B' w → R v w) : TE (BPM P fn R) .ret n [{ target := .collected Dd, args := #[] }] E (St w0 X I B) := ⟨fun a w ha hw => by
 have h1 := hw.perm hB.perm
 have hD : w.heap[Dd]? = some (.deferred (some [])) := h1.own (.box Dd (.deferred (some []))) List.mem_cons_self
 have h2 : St w0 X I (.box Dd (.deferred none) :: B') (w.putObj Dd (.deferred none)) :=
   h1.turn .here ⟨rfl,rfl,rfl,by simp,fun k _ hk => World.putObj_heap_other (fun e => hk (by rw [e]; rfl))⟩ (World.putObj_heap_same ((Array.getElem?_eq_some_iff.1 hD).1)) (fun _ h => .inl h)
 show LeavesInM Fence.wide 0 P fn a.tmps _ a.defers .returning w
 rw [ha.defs]
 refine ⟨fun h => (by cases h),.inl ⟨Dd,_,rfl,run_takeDeferred hD,?_⟩⟩;exact ⟨v,by rw [results_tmp hres a.tmps P _,ha.get t v hv],v,rfl,h _ (h2.drop (List.sublist_cons_self _ _))⟩⟩
end
end Go.Tw
namespace Go.Tw
open Go Go.RowKit
variable {P : Program}
def EqV (P : Program) (k : Nat) (t : TypeId) (x y : Value) (r : Bool) : Prop := ∀ d w, (Op.equalIn (d + k) t x y).run P w = .ok r w
def EqP (P : Program) (k : Nat) (fs : List Field) (xs ys : Array Value) (r : Bool) : Prop := ∀ d w, (Op.eqFields (d + k) xs ys fs).run P w = .ok r w
theorem EqV.int {k : Nat} {t : TypeId} {kd kd' : IntKind} {a b : Int} (h : P.underlying t = some (.int kd')) : EqV P (k + 1) t (.int kd a) (.int kd b) (a == b) := fun d w => run_equalIn_int w (d + k) t kd kd' a b h
theorem EqV.bool {k : Nat} {t : TypeId} {a b : Bool} (h : P.underlying t = some .bool) : EqV P (k + 1) t (.bool a) (.bool b) (a == b) := fun d w => run_equalIn_bool' w (d + k) t a b h
theorem EqV.struct {k : Nat} {t : TypeId} {fs : Array Field} {xs ys : Array Value} {r : Bool} (h : P.underlying t = some (.struct fs)) (hs : P.stoodInHeld t = false) (hp : EqP P k fs.toList xs ys r) : EqV P (k + 1) t (.agg xs) (.agg ys) r := fun d w => by
 have e : P.fieldsOf t = fs := by unfold Program.fieldsOf; rw [h]
 show (Op.equalIn (d + k + 1) t _ _).run P w = _
 rw [run_equalIn_agg w (d + k) t xs ys (by rw [e]; exact h) hs, e]
 exact hp d w
inductive Fld (P : Program) (T : TypeId) (o : Nat) (cs : List Value) : Value → Prop
 | one {v : Value} : (∀ w, (isAgg T).run P w = .ok false w) → Rd o 1 cs [v] → Fld P T o cs v
 | agg {sz : Nat} {r : List Value} : (∀ w, (isAgg T).run P w = .ok true w) → (∀ w, (sizeOf T).run P w = .ok sz w) → Rd o sz cs r → Fld P T o cs (.agg r.toArray)
theorem Fld.run {T : TypeId} {o : Nat} {cs : List Value} {v : Value} (h : Fld P T o cs v) (w : World) : (part T cs.toArray o).run P w = .ok v w := by
 cases h with
 | one ha hr =>
   have e : cs[o]? = some v := by
     have := hr.eq.1
     have h2 := congrArg (·[0]?) this
     simpa [List.getElem?_take, List.getElem?_drop] using h2.symm
   simp [part, ha, e, Result.andThen]
 | agg ha hz hr =>
   have e := hr.eq.1.symm
   simp [part, ha, hz, e, Result.andThen]
theorem EqP.last {k o : Nat} {T : TypeId} {f : Field} {xs ys : List Value} {x y : Value} {r : Bool} (hn : f.name ≠ "_") (ht : f.type = T) (ho : f.offset = o) (hx : Fld P T o xs x) (hy : Fld P T o ys y) (h : EqV P k T x y r) : EqP P k [f] xs.toArray ys.toArray r := fun d w => by
 subst ht; subst ho
 simp only [Op.eqFields, if_pos hn, Sem.run_bind, hx.run, hy.run, Result.andThen_ok, h d w, Sem.run_ite, Sem.run_pure]
 cases r <;> rfl
theorem EqP.cons {k o : Nat} {T : TypeId} {f : Field} {fs : List Field} {xs ys : List Value} {x y : Value} {r s : Bool} (hn : f.name ≠ "_") (ht : f.type = T) (ho : f.offset = o) (hx : Fld P T o xs x) (hy : Fld P T o ys y) (h : EqV P k T x y r) (hs : EqP P k fs xs.toArray ys.toArray s) : EqP P k (f :: fs) xs.toArray ys.toArray (r && s) := fun d w => by
 subst ht; subst ho
 have := hs d w
 simp only [Op.eqFields, if_pos hn, Sem.run_bind, hx.run, hy.run, Result.andThen_ok, h d w, Sem.run_ite, Sem.run_pure]
 cases r
 · rfl
 · simpa using this
variable {X : List Nat} {w0 : World} {I : Hp} {B : List Item}
variable {Q : Exit → Act → World → Prop} {ops : Array Oper} {rest : List Oper} {n d : Nat} {D : List Deferred} {E : Env} {S : World → Prop} {ty : TypeId} {pos : String} {aft : Array Edge} {g : Option (Nat × Bool)} {v : Value}
theorem qje {qm : Bool} {x y : Operand} {t t2 : TypeId} {a b : Bool} (hg : qi ops E g) (hd : Nat.blt d n = true) (hx : ev E x = some (.bool a)) (hy : ev E y = some (.bool b)) (ht : P.underlying t = some .bool)
   (k : TL qm P ops Q rest n D ((d, .bool (a == b)) :: E) S) : TL qm P ops Q (⟨some d, .binOp .eql t x y t2, ty, pos, aft, g⟩ :: rest) n D E S :=
 qmc hg hd hx hy (fun w => by
   have h := EqV.bool (P := P) (k := 0) (a := a) (b := b) ht 9999 w
   simp only [Sem.run_bind, eqGuard, binOp, Op.equal, Op.maxDepth]
   simp [h, Result.andThen]) k
theorem qfn {qm : Bool} {x y : Operand} {t t2 : TypeId} {a b : Bool} (hg : qi ops E g) (hd : Nat.blt d n = true) (hx : ev E x = some (.bool a)) (hy : ev E y = some (.bool b)) (ht : P.underlying t = some .bool)
   (k : TL qm P ops Q rest n D ((d, .bool (!(a == b))) :: E) S) : TL qm P ops Q (⟨some d, .binOp .neq t x y t2, ty, pos, aft, g⟩ :: rest) n D E S :=
 qmc hg hd hx hy (fun w => by
   have h := EqV.bool (P := P) (k := 0) (a := a) (b := b) ht 9999 w
   simp only [Sem.run_bind, eqGuard, binOp, Op.equal, Op.maxDepth]
   simp [h, Result.andThen]) k
end Go.Tw
namespace Go.Tw
open Go Go.RowKit
section
variable {P : Program} {Q : Exit → Act → World → Prop} {n : Nat} {D : List Deferred} {E : Env} {S S' : World → Prop} {ops : Array Oper} {rest : List Oper} {d : Nat} {op : Op} {ty : TypeId} {pos : String} {aft : Array Edge} {g : Option (Nat × Bool)} {v : Value} {w0 : World} {X : List Nat} {I I0 : Hp} {B B0 R : List Item}
theorem oV {qm : Bool} (k : TL qm P ops Q rest n D ((d,v) :: E) S) (hg : qi ops E g := by exact trivial) (hd : Nat.blt d n = true := by exact rfl) (hv : pv E op = some v := by exact rfl) : TL qm P ops Q (⟨some d,op,ty,pos,aft,g⟩ :: rest) n D E S := o_pv hg hd hv k
theorem oL {qm : Bool} {T Tb : TypeId} {p : Operand} {b off : Nat} {cs : List Value} {fz : Nat × Nat} (hagg : ∀ w, (isAgg T).run P w = .ok false w) (k : TL qm P ops Q rest n D ((d, v) :: E) (St w0 X I B)) (hg : qi ops E g := by exact trivial) (hd : Nat.blt d n = true := by exact rfl) (hp : ev E p = some (.pointer (some ⟨b, off, none⟩)) := by exact rfl)
 (hB : Item.box b (.cells cs.toArray Tb fz) ∈ B := by repeat constructor) (hr : Rd off 1 cs [v] := by repeat constructor) : TL qm P ops Q (⟨some d,.load T p,ty,pos,aft,g⟩ :: rest) n D E (St w0 X I B) := qme hg hd hagg hp hB hr k
theorem oA {qm : Bool} {T Tb : TypeId} {p : Operand} {b off sz : Nat} {cs r : List Value} {fz : Nat × Nat} (hagg : ∀ w, (isAgg T).run P w = .ok true w) (hsz : ∀ w, (sizeOf T).run P w = .ok sz w) (k : TL qm P ops Q rest n D ((d, .agg r.toArray) :: E) (St w0 X I B)) (hg : qi ops E g := by exact trivial) (hd : Nat.blt d n = true := by exact rfl) (hp : ev E p = some (.pointer (some ⟨b, off, none⟩)) := by exact rfl)
 (hB : Item.box b (.cells cs.toArray Tb fz) ∈ B := by repeat constructor) (hr : Rd off sz cs r := by repeat constructor) : TL qm P ops Q (⟨some d,.load T p,ty,pos,aft,g⟩ :: rest) n D E (St w0 X I B) := qgq hg hd hagg hsz hp hB hr k
theorem oF {qm : Bool} {t T : TypeId} {f sz : Nat} {x : Operand} {fs : Array Field} {fl : Field} {b o : Nat} (off : Nat) (hu : P.underlying t = some (.struct fs)) (hsz : ∀ w, (sizeOf T).run P w = .ok sz w) (k : TL qm P ops Q rest n D ((d, .pointer (some ⟨b, o + off, none⟩)) :: E) S) (hg : qi ops E g := by exact trivial) (hd : Nat.blt d n = true := by exact rfl)
 (hf : fs[f]? = some fl := by exact rfl) (ho : fl.offset = off := by exact rfl) (ht : fl.type = T := by exact rfl) (hs0 : Nat.blt 0 sz = true := by exact rfl) (hx : ev E x = some (.pointer (some ⟨b,o,none⟩)) := by exact rfl) : TL qm P ops Q (⟨some d,.fieldAddr t x f,ty,pos,aft,g⟩ :: rest) n D E S := oX hg hd hu hf ho ht hsz hs0 hx k
theorem oS {T Tb : TypeId} {p x : Operand} {b off sz : Nat} {cs vs cs' : List Value} {B' : List Item} (hsz : ∀ w, (sizeOf T).run P w = .ok sz w) (k : TL false P ops Q rest n D E (St w0 X I B')) (hg : qi ops E g := by exact trivial) (hp : ev E p = some (.pointer (some ⟨b, off, none⟩)) := by exact rfl) (hx : ev E x = some v := by exact rfl) (hc : v.cells = vs.toArray := by exact rfl) (hl : vs.length = sz := by exact rfl)
 (h1 : qbe vs = true := by first | exact rfl | (repeat' (first | exact rfl | refine qul ?_ ?_ | exact (Ws.cells1 (by assumption)).2 | exact (Slc.cells1 (by assumption)).2)))
 (hB : Put B (.box b (.cells cs.toArray Tb (0,0))) B' (.box b (.cells cs'.toArray Tb (0,0))) := by repeat constructor) (hw : Wr off cs vs cs' := by repeat constructor) : TL false P ops Q (⟨none,.store T p x,ty,pos,aft,g⟩ :: rest) n D E (St w0 X I B) := qip hg hp hx hc hsz hl h1 hB hw k
theorem sR {i : Nat} {l : List Oper} {y : Code} (h : TL false P l.toArray (Exit.then (y.wp P Q) Q) l n D E S) : TC P (.seq (.region i l.toArray false) y) Q n D E S := cS (cR h)
theorem nT {qm : Bool} {y : Code} (h : TC P y Q n D E S) : TL qm P ops (Exit.then (y.wp P Q) Q) [] n D E S := oN (tC h)
theorem nR {qm : Bool} {i : Nat} {l : List Oper} (h : TL false P l.toArray Q l n D E S) : TL qm P ops (Exit.then (Code.wp P (.region i l.toArray false) Q) Q) [] n D E S := oN (tC (cR h))
theorem nS {qm : Bool} {i : Nat} {l : List Oper} {y : Code} (h : TL false P l.toArray (Exit.then (y.wp P Q) Q) l n D E S) : TL qm P ops (Exit.then (Code.wp P (.seq (.region i l.toArray false) y) Q) Q) [] n D E S := oN (tC (cS (cR h)))
theorem nU {qm : Bool} {i : Nat} {l : List Oper} {y z : Code} (h : TL false P l.toArray (Exit.then (y.wp P (Exit.then (z.wp P Q) Q)) (Exit.then (z.wp P Q) Q)) l n D E S) : TL qm P ops (Exit.then (Code.wp P (.seq (.seq (.region i l.toArray false) y) z) Q) Q) [] n D E S := oN (tC (cS (cS (cR h))))
theorem kS {i : Nat} {l : List Oper} {y : Code} (h : TL false P l.toArray (Exit.then (y.wp P Q) Q) l n D E S) : TC P .skip (Exit.then (Code.wp P (.seq (.region i l.toArray false) y) Q) Q) n D E S := cK (tC (cS (cR h)))
theorem nE {qm : Bool} (h : TE Q .ret n D E S) : TL qm P ops (Exit.then (Code.wp P .ret Q) Q) [] n D E S := oN (tC (cT h))
theorem nF {qm : Bool} {K : Act → World → Prop} (h : TE Q .ret n D E S) : TL qm P ops (Exit.then (Code.wp P .ret (Exit.then K Q)) (Exit.then K Q)) [] n D E S := oN (tC (cT (tR h)))
theorem gV {qm : Bool} {j e : Nat} {want b : Bool} (h3 : b = want) (k : TL qm P ops Q rest n D ((d,v) :: E) S) (h1 : qar ops j = some e := by exact rfl) (h2 : look E e = some (.bool b) := by exact rfl) (hd : Nat.blt d n = true := by exact rfl) (hv : pv E op = some v := by exact rfl) : TL qm P ops Q (⟨some d,op,ty,pos,aft,some (j,want)⟩ :: rest) n D E S := o_pv (wS h1 h2 h3) hd hv k
theorem gL {qm : Bool} {T Tb : TypeId} {p : Operand} {b off : Nat} {cs : List Value} {fz : Nat × Nat} {j e : Nat} {want c : Bool} (h3 : c = want) (hagg : ∀ w, (isAgg T).run P w = .ok false w) (k : TL qm P ops Q rest n D ((d, v) :: E) (St w0 X I B)) (h1 : qar ops j = some e := by exact rfl) (h2 : look E e = some (.bool c) := by exact rfl) (hd : Nat.blt d n = true := by exact rfl) (hp : ev E p = some (.pointer (some ⟨b, off, none⟩)) := by exact rfl)
 (hB : Item.box b (.cells cs.toArray Tb fz) ∈ B := by repeat constructor) (hr : Rd off 1 cs [v] := by repeat constructor) : TL qm P ops Q (⟨some d,.load T p,ty,pos,aft,some (j,want)⟩ :: rest) n D E (St w0 X I B) := qme (wS h1 h2 h3) hd hagg hp hB hr k
theorem gF {qm : Bool} {t T : TypeId} {f sz : Nat} {x : Operand} {fs : Array Field} {fl : Field} {b o : Nat} {j e : Nat} {want c : Bool} (h3 : c = want) (off : Nat) (hu : P.underlying t = some (.struct fs)) (hsz : ∀ w, (sizeOf T).run P w = .ok sz w) (k : TL qm P ops Q rest n D ((d, .pointer (some ⟨b, o + off, none⟩)) :: E) S) (h1 : qar ops j = some e := by exact rfl) (h2 : look E e = some (.bool c) := by exact rfl) (hd : Nat.blt d n = true := by exact rfl)
 (hf : fs[f]? = some fl := by exact rfl) (ho : fl.offset = off := by exact rfl) (ht : fl.type = T := by exact rfl) (hs0 : Nat.blt 0 sz = true := by exact rfl) (hx : ev E x = some (.pointer (some ⟨b,o,none⟩)) := by exact rfl) : TL qm P ops Q (⟨some d,.fieldAddr t x f,ty,pos,aft,some (j,want)⟩ :: rest) n D E S := oX (wS h1 h2 h3) hd hu hf ho ht hsz hs0 hx k
theorem oB {t e : TypeId} {len sz : Nat} {parts : List (Nat × Operand)} {ps : List (Nat × Value)} {z : Value} {cs : List Value} (hu : P.underlying t = some (.slice e)) (hsz : ∀ w, (sizeOf e).run P w = .ok sz w) (hz : ∀ w, (zeroValue e).run P w = .ok z w)
 (k : ∀ b,TL false P ops Q rest n D ((d,.slice (some ⟨b,0,none⟩) len len) :: E) (St w0 X I (.box b (.cells cs.toArray e (0,0)) :: B))) (hg : qi ops E g := by exact trivial) (hd : Nat.blt d n = true := by exact rfl) (hs : len * sz ≤ 2 ^ 24 := by decide) (hpos : 0 < len * sz := by decide)
 (hp : qcc E parts = some ps := by exact rfl) (hf : qbt sz 0 ps cs := by repeat first | exact rfl | constructor) (hl : ps.length = len := by exact rfl) : TL false P ops Q (⟨some d,.buildSlice t len parts.toArray,ty,pos,aft,g⟩ :: rest) n D E (St w0 X I B) := qmi hg hd hu hsz hz hs hpos hp hf hl k
theorem oD {sl x : Operand} {t e Tb : TypeId} {size bytes m c b nn : Nat} {u : Value} {xs news : List Value} {fz : Nat × Nat} {B' : Value → List Item} (hu : P.underlying t = some (.slice e)) (he : zo P e size bytes)
 (k : ∀ v',TL false P ops Q rest n D ((d,v') :: E) (St w0 X I (B' v'))) (hg : qi ops E g := by exact trivial) (hd : Nat.blt d n = true := by exact rfl) (hpos : 0 < size := by decide)
 (hsl : ev E sl = some u := by exact rfl) (hx : ev E x = some (.slice (some ⟨b,0,none⟩) m c) := by exact rfl) (hput : ∀ v',Put B (.row u e size nn xs) (B' v') (.row v' e size (nn + m) (xs ++ news)) := by exact fun v' => (by repeat constructor)) (hbox : Item.box b (.cells news.toArray Tb fz) ∈ B := by repeat constructor) (hl : news.length = m * size := by exact rfl) (h1 : jo news = true := by exact rfl)
 (hmax : nn + m ≤ maxLen := by (unfold maxLen; omega)) (hby : (nn + m) * bytes ≤ 140737488355328 := by omega) : TL false P ops Q (⟨some d,.call { callee := .builtin .append,args := #[sl,x],argTypes := #[t,t] },ty,pos,aft,g⟩ :: rest) n D E (St w0 X I B) := jb hg hd hu he hpos hsl hx hput hbox hl h1 hmax hby k
theorem oE {sl x : Operand} {t e : TypeId} {size bytes nn : Nat} {u ux : Value} {xs : List Value} {yss : List (List Value)} {B' : Value → List Item} (hu : P.underlying t = some (.slice e)) (he : zo P e size bytes) (hs : Slc I size ux yss) (h1 : ∀ c ∈ yss, jo c = true)
 (k : ∀ v',TL false P ops Q rest n D ((d,v') :: E) (St w0 X I (B' v'))) (hg : qi ops E g := by exact trivial) (hd : Nat.blt d n = true := by exact rfl) (hpos : 0 < size := by decide)
 (hsl : ev E sl = some u := by exact rfl) (hx : ev E x = some ux := by exact rfl) (hput : ∀ v',Put B (.row u e size nn xs) (B' v') (.row v' e size (nn + yss.length) (xs ++ yss.flatten)) := by exact fun v' => (by repeat constructor))
 (hmax : nn + yss.length ≤ maxLen := by (unfold maxLen; omega)) (hby : (nn + yss.length) * bytes ≤ 140737488355328 := by omega) : TL false P ops Q (⟨some d,.call { callee := .builtin .append,args := #[sl,x],argTypes := #[t,t] },ty,pos,aft,g⟩ :: rest) n D E (St w0 X I B) := qfg hg hd hu he hpos hsl hx hput hs h1 hmax hby k
theorem oQ {qm : Bool} {f : FuncId} {args : List Operand} {ats : Array TypeId} {vs : List Value} (he : ∀ args w, (callFunc f args).run P w = .ok (.enter f args) w) (ha : evs E args = some vs) (hc : Fun P f vs I [] (fun u _ _ => u = v)) (k : TL qm P ops Q rest n D ((d, v) :: E) (St w0 X I B)) (hg : qi ops E g := by exact trivial) (hd : Nat.blt d n = true := by exact rfl) :
 TL qm P ops Q (⟨some d,.call { callee := .value (.func f),args := args.toArray,argTypes := ats },ty,pos,aft,g⟩ :: rest) n D E (St w0 X I B) := yy hg hd he ha hc k
theorem oI {f : FuncId} {args : List Operand} {ats : Array TypeId} {vs : List Value} {R : Value → Hp → Prop} (he : ∀ args w, (callFunc f args).run P w = .ok (.enter f args) w) (ha : evs E args = some vs)
 (hc : Fun P f vs I [] (fun v I' _ => R v I')) (k : ∀ v I',Ext w0.heap.size I I' → R v I' → TL false P ops Q rest n D ((d,v) :: E) (St w0 X I' B)) (hg : qi ops E g := by exact trivial) (hd : Nat.blt d n = true := by exact rfl) :
 TL false P ops Q (⟨some d,.call { callee := .value (.func f),args := args.toArray,argTypes := ats },ty,pos,aft,g⟩ :: rest) n D E (St w0 X I B) := qdz hg hd he ha hc k
def ba : Nat → Nat → List Bool
 | 0,_ => []
 | n + 1,k => (k % 2 == 1) :: ba n (k / 2)
def qB (n k : Nat) : Array Bool := (ba n k).toArray
theorem qF {d : Nat} : TL true P ops (fun _ a' _ => Fits n D ((d,v) :: E) a') [] n D ((d,v) :: E) S := oN ⟨fun _ _ ha _ => ha⟩
theorem qT {fuel i : Nat} {listed : Array Bool} (listed' : Array Bool) (le : I0.Le I) {o : Oper} (ho : ops[i]? = some o) (hd : o.dst = some d) (h : TL true P ops (fun _ a' _ => Fits n D ((d, v) :: E) a') [o] n D E (St w0 X I0 B0)) (k : TAH P ops Q (St w0 X I0 B0) fuel listed' n D ((d, v) :: E) (St w0 X I B))
 (hval : qja o.op = true := by exact rfl) (hs : Region.noSelect ops = true := by kernel_rfl) (hf : Region.free .any ops listed i = true := by kernel_rfl) (hr : (Region.ready .any ops listed).contains i = true := by kernel_rfl) (hl : listed.setIfInBounds i true = listed' := by kernel_rfl) (ht : qac B0 B R := by repeat constructor) [hQ : QP Q] :
 TAH P ops Q (St w0 X I0 B0) (fuel + 1) listed n D E (St w0 X I B) := qur listed' ho hd hval hs hf hr hl hQ (fun _ h => (h.sort ht).fewer le) h k
theorem qM {fuel : Nat} {listed : Array Bool} {ops' : Array Oper} (le : I0.Le I) (h : TAH P ops Q (St w0 X I0 B0) fuel listed n D E (St w0 X I B)) (ht : qac B0 B R := by repeat constructor) : TL false P ops' (Exit.then (fun a' w' => St w0 X I0 B0 w' ∧ wpAnyH P .any ops Q (St w0 X I0 B0) fuel listed a' w') Q) [] n D E (St w0 X I B) :=
 oN (qup (fun _ h => (h.sort ht).fewer le) h)
theorem qO {fuel i : Nat} {listed : Array Bool} {S0 : World → Prop} {o : Oper} (listed' : Array Bool) (ho : ops[i]? = some o) (k : TL false P ops (Exit.then (fun a' w' => S0 w' ∧ wpAnyH P .any ops Q S0 fuel listed' a' w') Q) [o] n D E S) (hr : Region.ready .any ops listed = [i] := by kernel_rfl) (hl : listed.setIfInBounds i true = listed' := by kernel_rfl) :
 TAH P ops Q S0 (fuel + 1) listed n D E S := h_go [i] hr rfl (TWHs.cons (h_op listed' ho hl k) TWHs.nil)
theorem qP {fuel i : Nat} {listed : Array Bool} {S0 : World → Prop} {o : Oper} (listed' : Array Bool) (ho : ops[i]? = some o) (k : TL false P ops (Exit.then (fun a' w' => S0 w' ∧ wpAnyH P .any ops Q S0 fuel listed' a' w') Q) [o] n D E S) (hl : listed.setIfInBounds i true = listed' := by kernel_rfl) :
 TWH P ops Q S0 fuel listed i n D E S := h_op listed' ho hl k
end
end Go.Tw
namespace Go.Proofs.YtoincnplajnpnaaGreat
open Go Go.Tw
theorem qcg : qab prog 34 [.int .i64 0,.slice none 0 0,.slice none 0 0] [(0,1),(1,1),(2,1)] := ⟨⟨_,underlying34,fun w => by kernel_rfl⟩,fun w => zeroValue34 w⟩
theorem zd : qab prog 48 [.bool false,.slice none 0 0,.slice none 0 0] [(0,1),(1,1),(2,1)] := ⟨⟨_,underlying48,fun w => by kernel_rfl⟩,fun w => zeroValue48 w⟩
theorem qch : qab prog 53 [.int .i64 0,.int .i64 0,.int .i64 0,.int .i64 0,.bool false,.slice none 0 0,.slice none 0 0] [(0,1),(1,1),(2,1),(3,1),(4,3)] := ⟨⟨_,underlying53,fun w => by kernel_rfl⟩,fun w => zeroValue53 w⟩
theorem qu8 : qab prog 59 [.slice none 0 0,.slice none 0 0,.slice none 0 0,.slice none 0 0,.slice none 0 0] [(0,4),(4,1)] := ⟨⟨_,underlying59,fun w => by kernel_rfl⟩,fun w => zeroValue59 w⟩
theorem qd6 : qab prog 67 [.int .i64 0,.int .i64 0,.int .i64 0,.int .i64 0,.string { data := #[] },.bool false,.slice none 0 0,.slice none 0 0] [(0,1),(1,1),(2,1),(3,1),(4,1),(5,3)] := ⟨⟨_,underlying67,fun w => by kernel_rfl⟩,fun w => zeroValue67 w⟩
theorem qm8 : qab prog 72 [.string { data := #[] },.int .i64 0] [(0,1),(1,1)] := ⟨⟨_,underlying72,fun w => by kernel_rfl⟩,fun w => zeroValue72 w⟩
theorem zk : qab prog 81 [.bool false,.slice none 0 0] [(0,1),(1,1)] := ⟨⟨_,underlying81,fun w => by kernel_rfl⟩,fun w => zeroValue81 w⟩
theorem qm9 : qab prog 95 [.bool false,.int .i64 0] [(0,1),(1,1)] := ⟨⟨_,underlying95,fun w => by kernel_rfl⟩,fun w => zeroValue95 w⟩
theorem qu9 : qab prog 100 [.map none,.map none] [(0,1),(1,1)] := ⟨⟨_,underlying100,fun w => by kernel_rfl⟩,fun w => zeroValue100 w⟩
theorem qva : qab prog 146 [.bool false,.slice none 0 0,.slice none 0 0] [(0,3)] := ⟨⟨_,underlying146,fun w => by kernel_rfl⟩,fun w => zeroValue146 w⟩
theorem qvb : qab prog 148 [.bool false,.slice none 0 0,.slice none 0 0] [(0,3)] := ⟨⟨_,underlying148,fun w => by kernel_rfl⟩,fun w => zeroValue148 w⟩
theorem qvc : qab prog 166 [.nilFunc] [(0,1)] := ⟨⟨_,underlying166,fun w => by kernel_rfl⟩,fun w => zeroValue166 w⟩
end Go.Proofs.YtoincnplajnpnaaGreat
