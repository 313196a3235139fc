/-
  The core of a walk by small lemmas: what is known of a frame is a list of slots and values ('Env'); 'TC', 'TL', 'TE' speak of the code, the operations, a piece's end in whatever frame fits it. One lemma a kind of code, one a kind of operation. Nothing of the program stands here.
-/
import Derived.WalkKit
import Derived.Deep.Quiet
import Derived.Deep.LoopGhost
import Derived.Shelf.Abstract
namespace Go.Tw
set_option linter.unusedVariables false
set_option linter.unusedSimpArgs false
set_option linter.unnecessarySimpa false
open Go Go.RowKit

/-- Slots and what they hold, the latest first. -/
abbrev Env := List (Nat × Value)

def look : List (Nat × Value) → Nat → Option Value
  | [], _ => none
  | (j, v) :: r, i => match Nat.beq i j with
    | true => some v
    | false => look r i

def ev (E : Env) : Operand → Option Value
  | .tmp t => look E t
  | .const v => some v
  | .global g => some (.pointer (some ⟨g, 0, none⟩))
  | .func f => some (.func (.func f) #[] #[])

def evs (E : Env) : List Operand → Option (List Value)
  | [] => some []
  | x :: r => match ev E x with
    | some v => match evs E r with
      | some vs => some (v :: vs)
      | none => none
    | none => none

structure Fits (n : Nat) (D : List Deferred) (E : Env) (a : Act) : Prop where
  size : a.tmps.size = n
  defs : a.defers = D
  get : ∀ i v, look E i = some v → a.tmps.getD i undef = v

theorem Fits.ev {n : Nat} {D : List Deferred} {E : Env} {a : Act} {x : Operand} {v : Value} (h : Fits n D E a) (hx : ev E x = some v) : a.eval x = v := by
  cases x with
  | tmp t => exact h.get t v hx
  | const c => exact Option.some.inj hx
  | global g => exact Option.some.inj hx
  | func f => exact Option.some.inj hx

theorem Fits.evs {n : Nat} {D : List Deferred} {E : Env} {a : Act} (h : Fits n D E a) : ∀ {xs : List Operand} {vs : List Value}, evs E xs = some vs → xs.map a.eval = vs
  | [], vs, hx => by simp only [Tw.evs, Option.some.injEq] at hx; subst hx; rfl
  | x :: r, vs, hx => by
    simp only [Tw.evs] at hx
    cases h1 : Tw.ev E x with
    | none => simp [h1] at hx
    | some v =>
      cases h2 : Tw.evs E r with
      | none => simp [h1, h2] at hx
      | some ws =>
        simp only [h1, h2, Option.some.injEq] at hx
        subst hx
        rw [List.map_cons, h.ev h1, Fits.evs h h2]

theorem getD_put (a : Act) (d : Nat) (v : Value) (i : Nat) : (a.put (some d) v).tmps.getD i undef = if d = i ∧ i < a.tmps.size then v else a.tmps.getD i undef := by
  simp only [Act.put, Array.getD_eq_getD_getElem?, Array.getElem?_setIfInBounds]
  by_cases h : d = i
  · subst h
    by_cases h2 : d < a.tmps.size
    · simp [h2]
    · simp [h2]
  · simp [h]

theorem look_cons_self (E : Env) (i : Nat) (v : Value) : look ((i, v) :: E) i = some v := by
  have : Nat.beq i i = true := Nat.beq_refl i
  simp only [look, this]
theorem look_cons_ne (E : Env) {i j : Nat} (v : Value) (h : i ≠ j) : look ((j, v) :: E) i = look E i := by
  have : Nat.beq i j = false := by
    cases hb : Nat.beq i j with
    | false => rfl
    | true => exact absurd (Nat.eq_of_beq_eq_true hb) h
  simp only [look, this]

theorem Fits.put {n : Nat} {D : List Deferred} {E : Env} {a : Act} (h : Fits n D E a) {d : Nat} (hd : Nat.blt d n = true) (v : Value) : Fits n D ((d, v) :: E) (a.put (some d) v) := by
  have hd' : d < n := by simpa [Nat.blt_eq] using hd
  refine ⟨by simp [Act.put, h.size], h.defs, fun i u hu => ?_⟩
  rw [getD_put]
  by_cases hi : i = d
  · subst hi
    rw [look_cons_self] at hu
    rw [if_pos ⟨rfl, by rw [h.size]; exact hd'⟩]
    exact Option.some.inj hu
  · rw [look_cons_ne _ _ hi] at hu
    rw [if_neg (fun e => hi e.1.symm)]
    exact h.get i u hu

/-- 'E' is known wherever 'E0' is. -/
def Sub : Env → Env → Prop
  | [], _ => True
  | (i, v) :: r, E => look E i = some v ∧ Sub r E
theorem sub_nil {E : Env} : Sub [] E := trivial
theorem sub_cons {i : Nat} {v : Value} {r E : Env} (h : look E i = some v) (hr : Sub r E) : Sub ((i, v) :: r) E := ⟨h, hr⟩
theorem Sub.look {E' E : Env} (h : Sub E' E) {i : Nat} {v : Value} (hi : Tw.look E' i = some v) : Tw.look E i = some v := by
  induction E' with
  | nil => cases hi
  | cons p r ih =>
    obtain ⟨j, u⟩ := p
    by_cases hij : i = j
    · subst hij
      rw [look_cons_self] at hi
      rw [← Option.some.inj hi]
      exact h.1
    · rw [look_cons_ne _ _ hij] at hi
      exact ih h.2 hi
theorem Fits.weaken {n : Nat} {D : List Deferred} {E E' : Env} {a : Act} (h : Fits n D E a) (hs : Sub E' E) : Fits n D E' a :=
  ⟨h.size, h.defs, fun i v hi => h.get i v (hs.look hi)⟩

/-- The code from here on, in whatever frame fits, in whatever world S tells of. (Structures, so that no unification opens them.) -/
structure TC (P : Program) (c : Code) (Q : Exit → Act → World → Prop) (n : Nat) (D : List Deferred) (E : Env) (S : World → Prop) : Prop where
  out : ∀ a w, Fits n D E a → S w → c.wp P Q a w
/-- In order (false); or quietly, in whatever order (true). -/
def wpM (qm : Bool) (P : Program) (ops : Array Oper) (Q : Exit → Act → World → Prop) (S : World → Prop) (l : List Oper) (a : Act) (w : World) : Prop :=
  match qm with
  | false => wpList P ops Q l a w
  | true => wpQuiet P ops S (fun a' => ∀ w', S w' → Q .normal a' w') l a
/-- A list of operations. -/
structure TL (qm : Bool) (P : Program) (ops : Array Oper) (Q : Exit → Act → World → Prop) (l : List Oper) (n : Nat) (D : List Deferred) (E : Env) (S : World → Prop) : Prop where
  out : ∀ a w, Fits n D E a → S w → wpM qm P ops Q S l a w
/-- A piece's end. -/
structure TE (Q : Exit → Act → World → Prop) (e : Exit) (n : Nat) (D : List Deferred) (E : Env) (S : World → Prop) : Prop where
  out : ∀ a w, Fits n D E a → S w → Q e a w

/-- What ways bring where they meet: for some i, the frame EJ i and the world SJ i. -/
structure Meets {ι : Type} (EJ : ι → Env) (SJ : ι → World → Prop) (FJ : ι → Prop) (n : Nat) (D : List Deferred) (a : Act) (w : World) : Prop where
  out : ∃ i, FJ i ∧ Fits n D (EJ i) a ∧ SJ i w
/-- What a round brings. -/
structure Again {ι : Type} (k : Nat) (m : ι → Nat) (EI : ι → Env) (SI : ι → World → Prop) (FI : ι → Prop) (n : Nat) (D : List Deferred) (a : Act) (w : World) : Prop where
  out : ∃ i, m i < k ∧ FI i ∧ Fits n D (EI i) a ∧ SI i w

/-- The slots ks stand in E as E' writes them out. -/
inductive Kept (E : Env) : List Nat → Env → Prop
  | nil : Kept E [] []
  | cons {i : Nat} {v : Value} {ks : List Nat} {E' : Env} : look E i = some v → Kept E ks E' → Kept E (i :: ks) ((i, v) :: E')
theorem Kept.sub {E E' : Env} {ks : List Nat} (h : Kept E ks E') : Sub E' E := by
  induction h with
  | nil => exact sub_nil
  | cons h _ ih => exact sub_cons h ih

section
variable {P : Program} {K K' : Act → World → Prop} {Q : Exit → Act → World → Prop} {n : Nat} {D : List Deferred} {E : Env} {S S' : World → Prop}

theorem c_weak {c : Code} (E' : Env) (hs : Sub E' E) (h : TC P c Q n D E' S) : TC P c Q n D E S := ⟨fun a w ha hw => h.out a w (ha.weaken hs) hw⟩
/-- Only these slots are known any more. -/
theorem c_keep {c : Code} (ks : List Nat) {E' : Env} (hk : Kept E ks E') (h : TC P c Q n D E' S) : TC P c Q n D E S := c_weak E' hk.sub h
theorem c_imp {c : Code} (hs : ∀ w, S w → S' w) (h : TC P c Q n D E S') : TC P c Q n D E S := ⟨fun a w ha hw => h.out a w ha (hs w hw)⟩
theorem l_imp {ops : Array Oper} {l : List Oper} (hs : ∀ w, S w → S' w) (h : TL false P ops Q l n D E S') : TL false P ops Q l n D E S := ⟨fun a w ha hw => h.out a w ha (hs w hw)⟩
theorem e_imp {e : Exit} (hs : ∀ w, S w → S' w) (h : TE Q e n D E S') : TE Q e n D E S := ⟨fun a w ha hw => h.out a w ha (hs w hw)⟩

theorem then_c {y : Code} (h : TC P y Q n D E S) : TE (Exit.then (y.wp P Q) Q) .normal n D E S := ⟨fun a w ha hw => h.out a w ha hw⟩
theorem then_r (h : TE Q .ret n D E S) : TE (Exit.then K Q) .ret n D E S := ⟨h.out⟩
theorem then_x {i : Nat} (h : TE Q (.exit i) n D E S) : TE (Exit.then K Q) (.exit i) n D E S := ⟨h.out⟩
theorem then_p {ch : List PanicEntry} (h : TE Q (.panic ch) n D E S) : TE (Exit.then K Q) (.panic ch) n D E S := ⟨h.out⟩
theorem blk_n {i : Nat} (h : TE Q .normal n D E S) : TE (Exit.inBlock i Q) .normal n D E S := ⟨h.out⟩
theorem blk_r {i : Nat} (h : TE Q .ret n D E S) : TE (Exit.inBlock i Q) .ret n D E S := ⟨h.out⟩
theorem blk_p {i : Nat} {ch : List PanicEntry} (h : TE Q (.panic ch) n D E S) : TE (Exit.inBlock i Q) (.panic ch) n D E S := ⟨h.out⟩
theorem blk_eq {i j : Nat} (hij : Nat.beq j i = true) (h : TE Q .normal n D E S) : TE (Exit.inBlock i Q) (.exit j) n D E S := ⟨fun a w ha hw => by
  show (if j = i then Q .normal a w else Q (.exit j) a w)
  rw [if_pos (Nat.eq_of_beq_eq_true hij)]; exact h.out a w ha hw⟩
theorem blk_ne {i j : Nat} (hij : Nat.beq j i = false) (h : TE Q (.exit j) n D E S) : TE (Exit.inBlock i Q) (.exit j) n D E S := ⟨fun a w ha hw => by
  show (if j = i then Q .normal a w else Q (.exit j) a w)
  rw [if_neg (fun e => by subst e; simp at hij)]; exact h.out a w ha hw⟩

theorem c_seq {x y : Code} (h : TC P x (Exit.then (y.wp P Q) Q) n D E S) : TC P (.seq x y) Q n D E S := ⟨fun a w ha hw => wp_seq (h.out a w ha hw)⟩
theorem c_skip (h : TE Q .normal n D E S) : TC P .skip Q n D E S := ⟨fun a w ha hw => wp_skip (h.out a w ha hw)⟩
theorem c_ret (h : TE Q .ret n D E S) : TC P .ret Q n D E S := ⟨fun a w ha hw => wp_ret (h.out a w ha hw)⟩
theorem c_exit {i : Nat} (h : TE Q (.exit i) n D E S) : TC P (.exit i) Q n D E S := ⟨fun a w ha hw => wp_exit (h.out a w ha hw)⟩
theorem c_label {l : Nat} (h : TE Q .normal n D E S) : TC P (.label l) Q n D E S := ⟨fun a w ha hw => wp_label (h.out a w ha hw)⟩
theorem c_block {i : Nat} {c : Code} (h : TC P c (Exit.inBlock i Q) n D E S) : TC P (.block i c) Q n D E S := ⟨fun a w ha hw => wp_block (h.out a w ha hw)⟩
theorem c_quiet {i : Nat} {l : List Oper} (hm : P.follows .mixedOrders = true) (hB : Region.lexB .any l.toArray = true) (hd : ∀ w, S w → S { w with drawn := w.drawn + 1 }) (h : TL true P l.toArray Q l n D E S) : TC P (.region i l.toArray true) Q n D E S := ⟨fun a w ha hw =>
  wp_region_quiet (C := S) hm hB (hd w hw) (h.out a w ha hw)⟩
theorem c_region {i : Nat} {l : List Oper} (h : TL false P l.toArray Q l n D E S) : TC P (.region i l.toArray false) Q n D E S := ⟨fun a w ha hw => wp_region_lit (h.out a w ha hw)⟩
theorem c_cond {c : Operand} {x y : Code} {b : Bool} (hc : ev E c = some (.bool b)) (h1 : b = true → TC P x Q n D E S) (h0 : b = false → TC P y Q n D E S) : TC P (.cond c x y) Q n D E S := ⟨fun a w ha hw => by
  cases b
  · exact wp_cond_false (ha.ev hc) ((h0 rfl).out a w ha hw)
  · exact wp_cond_true (ha.ev hc) ((h1 rfl).out a w ha hw)⟩
theorem c_cond_t {c : Operand} {x y : Code} {b : Bool} (hc : ev E c = some (.bool b)) (hb : b = true) (h1 : TC P x Q n D E S) : TC P (.cond c x y) Q n D E S :=
  c_cond hc (fun _ => h1) (fun h => by rw [hb] at h; cases h)
theorem c_cond_f {c : Operand} {x y : Code} {b : Bool} (hc : ev E c = some (.bool b)) (hb : b = false) (h0 : TC P y Q n D E S) : TC P (.cond c x y) Q n D E S :=
  c_cond hc (fun h => by rw [hb] at h; cases h) (fun _ => h0)

/-- The ways through 'x' meet ahead of 'y'. The slots ks stand as they did. -/
theorem c_cut {x y : Code} {ι : Type} (ks : List Nat) {E0 : Env} (hk : Kept E ks E0) (EJ : ι → Env → Env) (SJ : ι → World → Prop) (FJ : ι → Prop) (h1 : TC P x (Exit.then (Meets (fun i => EJ i E0) SJ FJ n D) Q) n D E S)
    (h2 : ∀ i, FJ i → TC P y Q n D (EJ i E0) (SJ i)) : TC P (.seq x y) Q n D E S := ⟨fun a w ha hw =>
  wp_seq (wp_mono (h1.out a w ha hw) fun e _ w' q => by
    cases e with
    | normal => obtain ⟨i, hF, hf, hS⟩ := q.out; exact (h2 i hF).out _ _ hf hS
    | _ => exact q)⟩
theorem meet {ι : Type} {EJ : ι → Env} {SJ : ι → World → Prop} {FJ : ι → Prop} (i : ι) (hs : Sub (EJ i) E) (hS : ∀ w, S w → SJ i w) (hF : FJ i) : TE (Exit.then (Meets EJ SJ FJ n D) Q) .normal n D E S := ⟨fun _ w ha hw => ⟨i, hF, ha.weaken hs, hS w hw⟩⟩

/- A loop: a round's head is described by an i, which every round lowers by 'm'; there the frame is EI i (behind it the slots ks, which no round writes), the world SI i, and FI i is known. -/
theorem c_loop {c : Code} {ι : Type} (ks : List Nat) {E0 : Env} (hk : Kept E ks E0) (m : ι → Nat) (EI : ι → Env → Env) (SI : ι → World → Prop) (FI : ι → Prop) (i0 : ι) (hs : Sub (EI i0 E0) E) (hS : ∀ w, S w → SI i0 w) (h0 : FI i0)
    (round : ∀ i, FI i → TC P c (Exit.then (Again (m i) m (fun i => EI i E0) SI FI n D) Q) n D (EI i E0) (SI i)) : TC P (.loop c) Q n D E S := ⟨by
  intro a w ha hw
  refine wp_loop_ghost (fun k a w => ∃ i, m i = k ∧ FI i ∧ Fits n D (EI i E0) a ∧ SI i w) (m i0) ⟨i0, rfl, h0, ha.weaken hs, hS w hw⟩ ?_
  rintro k a w ⟨i, rfl, hF, hf, hS⟩
  refine wp_mono ((round i hF).out a w hf hS) fun e _ _ q => ?_
  cases e with
  | normal => obtain ⟨i', hlt, hF', hf', hS'⟩ := q.out; exact ⟨m i', hlt, i', rfl, hF', hf', hS'⟩
  | _ => exact q⟩
/-- A round's end. -/
theorem again {ι : Type} {k : Nat} {m : ι → Nat} {EI : ι → Env} {SI : ι → World → Prop} {FI : ι → Prop} (i : ι) (hs : Sub (EI i) E) (hS : ∀ w, S w → SI i w) (hm : m i < k) (hF : FI i) : TE (Exit.then (Again k m EI SI FI n D) Q) .normal n D E S :=
  ⟨fun _ w ha hw => ⟨i, hm, hF, ha.weaken hs, hS w hw⟩⟩

/-! ### operations -/
def dstOf (ops : Array Oper) (j : Nat) : Option Tmp := (ops[j]?).bind (·.dst)

/-- The operation's guard lets it run. -/
def Wants (ops : Array Oper) (E : Env) : Option (Nat × Bool) → Prop
  | none => True
  | some (j, want) => ∃ d, dstOf ops j = some d ∧ ∃ b, look E d = some (.bool b) ∧ b = want
/-- .. or not. -/
def Skips (ops : Array Oper) (E : Env) : Option (Nat × Bool) → Prop
  | none => False
  | some (j, want) => ∃ d, dstOf ops j = some d ∧ ∃ v, look E d = some v ∧ ∀ b, v = .bool b → b = !want

theorem wants_some {ops : Array Oper} {E : Env} {j : Nat} {want : Bool} {d : Nat} {b : Bool} (h1 : dstOf ops j = some d) (h2 : look E d = some (.bool b)) (h3 : b = want) : Wants ops E (some (j, want)) := ⟨d, h1, b, h2, h3⟩

theorem get_of_getD {a : Array Value} {i : Nat} {v : Value} (h : a.getD i undef = v) (hv : v ≠ undef) : a[i]? = some v := by
  rw [Array.getD_eq_getD_getElem?] at h
  cases hc : a[i]? with
  | none => rw [hc] at h; exact absurd h.symm hv
  | some u => rw [hc] at h; exact congrArg some h

theorem wanted_of {ops : Array Oper} {o : Oper} {a : Act} (h : Wants ops E o.guard) (hf : Fits n D E a) : Region.wanted o (yielded ops a.tmps) = true := by
  unfold Region.wanted
  cases hg : o.guard with
  | none => rfl
  | some p =>
    obtain ⟨j, want⟩ := p
    rw [hg] at h
    obtain ⟨d, hd, b, hb, rfl⟩ := h
    have h1 := get_of_getD (hf.get d _ hb) (fun e => by cases e)
    simp only [yielded]
    have : ((ops[j]?).bind (·.dst)) = some d := hd
    rw [this]
    simp [h1]
theorem not_wanted_of {ops : Array Oper} {o : Oper} {a : Act} (h : Skips ops E o.guard) (hf : Fits n D E a) : Region.wanted o (yielded ops a.tmps) = false := by
  unfold Region.wanted
  cases hg : o.guard with
  | none => rw [hg] at h; exact h.elim
  | some p =>
    obtain ⟨j, want⟩ := p
    rw [hg] at h
    obtain ⟨d, hd, v, hv, hb⟩ := h
    have h0 := hf.get d _ hv
    simp only [yielded]
    have : ((ops[j]?).bind (·.dst)) = some d := hd
    rw [this]
    simp only [Option.bind_some]
    rw [Array.getD_eq_getD_getElem?] at h0
    cases hc : a.tmps[d]? with
    | none => cases want <;> rfl
    | some u =>
      rw [hc] at h0
      simp only [Option.getD_some] at h0
      subst h0
      cases u with
      | bool b =>
        have e := hb b rfl
        subst e
        cases want <;> rfl
      | _ => cases want <;> rfl

/-- What an operation gives, in each world of S: the value v, and a world of S'. -/
def Runs (P : Program) (n : Nat) (D : List Deferred) (E : Env) (op : Op) (ty : TypeId) (S : World → Prop) (v : Value) (S' : World → Prop) : Prop :=
  ∀ a w, Fits n D E a → S w → ∀ d pos aft g, ∃ w', (execOp a.eval ⟨d, op, ty, pos, aft, g⟩).run P w = .ok (.value v) w' ∧ S' w'
/-- .. the value v, and the world stays. -/
def Reads (P : Program) (n : Nat) (D : List Deferred) (E : Env) (op : Op) (ty : TypeId) (S : World → Prop) (v : Value) : Prop :=
  ∀ a w, Fits n D E a → S w → ∀ d pos aft g, ∃ w', (execOp a.eval ⟨d, op, ty, pos, aft, g⟩).run P w = .ok (.value v) w' ∧ w' = w
/-- .. nothing, and a world of S'. -/
def RunsU (P : Program) (n : Nat) (D : List Deferred) (E : Env) (op : Op) (ty : TypeId) (S : World → Prop) (S' : World → Prop) : Prop :=
  ∀ a w, Fits n D E a → S w → ∀ d pos aft g, ∃ w', (execOp a.eval ⟨d, op, ty, pos, aft, g⟩).run P w = .ok .skip w' ∧ S' w'
/-- .. the value V i, and a world of S' i, for some i with F i. -/
def RunsX (P : Program) (n : Nat) (D : List Deferred) (E : Env) (op : Op) (ty : TypeId) (S : World → Prop) {ι : Type} (V : ι → Value) (S' : ι → World → Prop) (F : ι → Prop) : Prop :=
  ∀ a w, Fits n D E a → S w → ∀ d pos aft g, ∃ w' i, (execOp a.eval ⟨d, op, ty, pos, aft, g⟩).run P w = .ok (.value (V i)) w' ∧ S' i w' ∧ F i

section
variable {ops : Array Oper} {rest : List Oper} {d : Nat} {op : Op} {ty : TypeId} {pos : String} {aft : Array Edge} {g : Option (Nat × Bool)} {v : Value}

theorem o_nil {qm : Bool} (h : TE Q .normal n D E S) : TL qm P ops Q [] n D E S := ⟨fun a w ha hw => by
  cases qm
  · exact h.out a w ha hw
  · exact fun w' hw' => h.out a w' ha hw'⟩

theorem wpList_of_run {o : Oper} {a : Act} {w : World} (hw : Region.wanted o (yielded ops a.tmps) = true) (h : o.wp P a w (wpList P ops Q rest) Q) : wpList P ops Q (o :: rest) a w := by
  unfold wpList
  rw [if_pos hw]
  exact .inl h

theorem o_op (hg : Wants ops E g) (hd : Nat.blt d n = true) (hr : Runs P n D E op ty S v S') (k : TL false P ops Q rest n D ((d, v) :: E) S') : TL false P ops Q (⟨some d, op, ty, pos, aft, g⟩ :: rest) n D E S := ⟨fun a w ha hw => by
  refine wpList_of_run (wanted_of hg ha) ?_
  unfold Oper.wp
  obtain ⟨w', h1, h2⟩ := hr a w ha hw (some d) pos aft g
  rw [h1]
  exact k.out _ _ (ha.put hd v) h2⟩
theorem o_opX {ι : Type} {V : ι → Value} {SX : ι → World → Prop} {F : ι → Prop} (hg : Wants ops E g) (hd : Nat.blt d n = true) (hr : RunsX P n D E op ty S V SX F) (k : ∀ i, F i → TL false P ops Q rest n D ((d, V i) :: E) (SX i)) : TL false P ops Q (⟨some d, op, ty, pos, aft, g⟩ :: rest) n D E S := ⟨fun a w ha hw => by
  refine wpList_of_run (wanted_of hg ha) ?_
  unfold Oper.wp
  obtain ⟨w', i, h1, h2, h3⟩ := hr a w ha hw (some d) pos aft g
  rw [h1]
  exact (k i h3).out _ _ (ha.put hd _) h2⟩
theorem o_op0 (hg : Wants ops E g) (hr : RunsU P n D E op ty S S') (k : TL false P ops Q rest n D E S') : TL false P ops Q (⟨none, op, ty, pos, aft, g⟩ :: rest) n D E S := ⟨fun a w ha hw => by
  refine wpList_of_run (wanted_of hg ha) ?_
  unfold Oper.wp
  obtain ⟨w', h1, h2⟩ := hr a w ha hw none pos aft g
  rw [h1]
  exact k.out _ _ ha h2⟩
theorem o_rd {qm : Bool} (hg : Wants ops E g) (hd : Nat.blt d n = true) (hr : Reads P n D E op ty S v) (k : TL qm P ops Q rest n D ((d, v) :: E) S) : TL qm P ops Q (⟨some d, op, ty, pos, aft, g⟩ :: rest) n D E S := ⟨fun a w ha hw => by
  cases qm
  · refine wpList_of_run (wanted_of hg ha) ?_
    unfold Oper.wp
    obtain ⟨w', h1, h2⟩ := hr a w ha hw (some d) pos aft g
    rw [h1, h2]
    exact k.out _ _ (ha.put hd v) hw
  · show wpQuiet _ _ _ _ (_ :: _) _
    unfold wpQuiet
    rw [if_pos (wanted_of hg ha)]
    refine ⟨v, fun w1 hw1 => ?_, k.out _ w (ha.put hd v) hw⟩
    obtain ⟨w', h1, h2⟩ := hr a w1 ha hw1 (some d) pos aft g
    unfold Oper.quietAt
    rw [h1, h2]
    exact ⟨rfl, rfl⟩⟩
theorem o_skip {qm : Bool} (hg : Skips ops E g) (hd : Nat.blt d n = true) (k : TL qm P ops Q rest n D ((d, undef) :: E) S) : TL qm P ops Q (⟨some d, op, ty, pos, aft, g⟩ :: rest) n D E S := ⟨fun a w ha hw => by
  cases qm
  · show wpList _ _ _ (_ :: _) _ _
    unfold wpList
    rw [if_neg (by rw [not_wanted_of hg ha]; exact Bool.false_ne_true)]
    exact k.out _ _ (ha.put hd undef) hw
  · show wpQuiet _ _ _ _ (_ :: _) _
    unfold wpQuiet
    rw [if_neg (by rw [not_wanted_of hg ha]; exact Bool.false_ne_true)]
    exact k.out _ _ (ha.put hd undef) hw⟩
theorem o_skip0 (hg : Skips ops E g) (k : TL false P ops Q rest n D E S) : TL false P ops Q (⟨none, op, ty, pos, aft, g⟩ :: rest) n D E S := ⟨fun a w ha hw => by
  show wpList _ _ _ (_ :: _) _ _; unfold wpList
  rw [if_neg (by rw [not_wanted_of hg ha]; exact Bool.false_ne_true)]
  exact k.out _ _ ha hw⟩

/-- A contract: the call returns, and R holds of what it returns. -/
def Ret (P : Program) (f : FuncId) (args : Array Value) (w : World) (R : Value → World → Prop) : Prop := Calls P f args w fun e w' => ∃ v, e = .returned v ∧ R v w'
theorem Ret.mono {f : FuncId} {args : Array Value} {w : World} {R R' : Value → World → Prop} (h : Ret P f args w R) (hr : ∀ v w', R v w' → R' v w') : Ret P f args w R' :=
  Calls.mono h fun _ _ ⟨v, e, r⟩ => ⟨v, e, hr _ _ r⟩

/-- A call of a Go function by its name. -/
theorem o_callG {f : FuncId} {args : List Operand} {ats : Array TypeId} {vs : List Value} {ι : Type} {V : ι → Value} {SX : ι → World → Prop} {F : ι → Prop} (hg : Wants ops E g) (hd : Nat.blt d n = true) (he : ∀ args w, (callFunc f args).run P w = .ok (.enter f args) w) (ha : evs E args = some vs)
    (hc : ∀ w, S w → Ret P f vs.toArray w fun v w' => ∃ i, v = V i ∧ F i ∧ SX i w') (k : ∀ i, F i → TL false P ops Q rest n D ((d, V i) :: E) (SX i)) :
    TL false P ops Q (⟨some d, .call { callee := .value (.func f), args := args.toArray, argTypes := ats }, ty, pos, aft, g⟩ :: rest) n D E S := ⟨fun a w hf hw => by
  refine wpList_of_run (wanted_of hg hf) ?_
  have hargs : (args.toArray.map a.eval) = vs.toArray := by
    rw [List.map_toArray, hf.evs ha]
  have hrun : (execOp a.eval ⟨some d, .call { callee := .value (.func f), args := args.toArray, argTypes := ats }, ty, pos, aft, g⟩).run P w = .ok (.enter f vs.toArray) w := by
    simp only [execOp, resolve, Act.eval, Deferred.ofValue, hargs, Sem.run_bind, Sem.run_pure, Result.andThen_ok, invoke]
    simpa using he vs.toArray w
  unfold Oper.wp
  rw [hrun]
  refine Calls.mono (hc w hw) ?_
  rintro e w'' ⟨v, rfl, i, rfl, hF, hS⟩
  exact (k i hF).out _ _ (hf.put hd _) hS⟩
/-- A call that leaves a world of the class, and gives one value. -/
theorem o_callV {qm : Bool} {f : FuncId} {args : List Operand} {ats : Array TypeId} {vs : List Value} (hg : Wants ops E g) (hd : Nat.blt d n = true) (he : ∀ args w, (callFunc f args).run P w = .ok (.enter f args) w) (ha : evs E args = some vs)
    (hc : ∀ w, S w → Ret P f vs.toArray w fun u w' => u = v ∧ S w') (k : TL qm P ops Q rest n D ((d, v) :: E) S) :
    TL qm P ops Q (⟨some d, .call { callee := .value (.func f), args := args.toArray, argTypes := ats }, ty, pos, aft, g⟩ :: rest) n D E S := by
  cases qm
  · exact o_callG (ι := Unit) (V := fun _ => v) (SX := fun _ => S) (F := fun _ => True) hg hd he ha (fun w hw => (hc w hw).mono fun u w' ⟨h1, h2⟩ => ⟨(), h1, trivial, h2⟩) fun _ _ => k
  · refine ⟨fun a w hf hw => ?_⟩
    have hargs : (args.toArray.map a.eval) = vs.toArray := by
      rw [List.map_toArray, hf.evs ha]
    have hrun : ∀ w, (execOp a.eval ⟨some d, .call { callee := .value (.func f), args := args.toArray, argTypes := ats }, ty, pos, aft, g⟩).run P w = .ok (.enter f vs.toArray) w := by
      intro w
      simp only [execOp, resolve, Act.eval, Deferred.ofValue, hargs, Sem.run_bind, Sem.run_pure, Result.andThen_ok, invoke]
      simpa using he vs.toArray w
    show wpQuiet _ _ _ _ (_ :: _) _
    unfold wpQuiet
    rw [if_pos (wanted_of hg hf)]
    refine ⟨v, fun w1 hw1 => ?_, k.out _ w (hf.put hd v) hw⟩
    unfold Oper.quietAt
    rw [hrun w1]
    exact ⟨rfl, Calls.mono (hc w1 hw1) fun e w'' ⟨u, h1, h2, h3⟩ => ⟨by rw [h1, h2], h3⟩⟩
end

/-! ### entering and leaving -/
/-- What a function's body must end in. -/
def BP (P : Program) (fn : Func) (R : Value → World → Prop) : Exit → Act → World → Prop := bodyPost P fn fun e w' => ∃ v, e = .returned v ∧ R v w'
theorem enter {f : FuncId} {fn : Func} {c : Code} {args : List Value} {R : Value → World → Prop} (E : Env) (n : Nat) (hf : P.funcs[f]? = some fn) (hb : fn.body = some c) (hn : fn.ntmps = n) (hs : Nat.ble args.length n = true)
    (hE : ∀ i v, look E i = some v → args[i]? = some v) (h : TC P c (BP P fn R) n [] E S) {w : World} (hw : S w) : Ret P f args.toArray w R := by
  have hs' : args.length ≤ n := by simpa using hs
  refine calls_of_wp hf hb (h.out _ _ ⟨?_, rfl, ?_⟩ hw)
  · simp [hn]; omega
  · intro i v hi
    have h1 := hE i v hi
    rw [Array.getD_eq_getD_getElem?, Array.getElem?_append]
    obtain ⟨hlt, h2⟩ := List.getElem?_eq_some_iff.1 h1
    simp [hlt, h2]
/-- The arguments' slots. -/
theorem enter0 {f : FuncId} {fn : Func} {c : Code} {R : Value → World → Prop} (n : Nat) (hf : P.funcs[f]? = some fn) (hb : fn.body = some c) (hn : fn.ntmps = n)
    (h : TC P c (BP P fn R) n [] [] S) {w : World} (hw : S w) : Ret P f #[] w R := enter (args := []) [] n hf hb hn rfl (fun _ _ h => by cases h) h hw
theorem enter1 {f : FuncId} {fn : Func} {c : Code} {a0 : Value} {R : Value → World → Prop} (n : Nat) (hf : P.funcs[f]? = some fn) (hb : fn.body = some c) (hn : fn.ntmps = n) (hs : Nat.ble 1 n = true)
    (h : TC P c (BP P fn R) n [] [(0, a0)] S) {w : World} (hw : S w) : Ret P f #[a0] w R := enter (args := [a0]) _ n hf hb hn hs (fun i v hi => by
      match i, hi with
      | 0, hi => exact hi
      | i + 1, hi => cases hi) h hw
theorem enter2 {f : FuncId} {fn : Func} {c : Code} {a0 a1 : Value} {R : Value → World → Prop} (n : Nat) (hf : P.funcs[f]? = some fn) (hb : fn.body = some c) (hn : fn.ntmps = n) (hs : Nat.ble 2 n = true)
    (h : TC P c (BP P fn R) n [] [(0, a0), (1, a1)] S) {w : World} (hw : S w) : Ret P f #[a0, a1] w R := enter (args := [a0, a1]) _ n hf hb hn hs (fun i v hi => by
      match i, hi with
      | 0, hi => exact hi
      | 1, hi => exact hi
      | i + 2, hi => cases hi) h hw
theorem enter3 {f : FuncId} {fn : Func} {c : Code} {a0 a1 a2 : Value} {R : Value → World → Prop} (n : Nat) (hf : P.funcs[f]? = some fn) (hb : fn.body = some c) (hn : fn.ntmps = n) (hs : Nat.ble 3 n = true)
    (h : TC P c (BP P fn R) n [] [(0, a0), (1, a1), (2, a2)] S) {w : World} (hw : S w) : Ret P f #[a0, a1, a2] w R := enter (args := [a0, a1, a2]) _ n hf hb hn hs (fun i v hi => by
      match i, hi with
      | 0, hi => exact hi
      | 1, hi => exact hi
      | 2, hi => exact hi
      | i + 3, hi => cases hi) h hw
theorem enter4 {f : FuncId} {fn : Func} {c : Code} {a0 a1 a2 a3 : Value} {R : Value → World → Prop} (n : Nat) (hf : P.funcs[f]? = some fn) (hb : fn.body = some c) (hn : fn.ntmps = n) (hs : Nat.ble 4 n = true)
    (h : TC P c (BP P fn R) n [] [(0, a0), (1, a1), (2, a2), (3, a3)] S) {w : World} (hw : S w) : Ret P f #[a0, a1, a2, a3] w R := enter (args := [a0, a1, a2, a3]) _ n hf hb hn hs (fun i v hi => by
      match i, hi with
      | 0, hi => exact hi
      | 1, hi => exact hi
      | 2, hi => exact hi
      | 3, hi => exact hi
      | i + 4, hi => cases hi) h hw

theorem ret0 {fn : Func} {R : Value → World → Prop} (hres : fn.results = #[]) (h : ∀ w, S w → R (.tuple #[]) w) : TE (BP P fn R) .normal n [] E S := ⟨fun a w ha hw =>
  bodyPost_end (results_none hres a.tmps P w) ha.defs ⟨_, rfl, h w hw⟩⟩
theorem ret0' {fn : Func} {R : Value → World → Prop} (hres : fn.results = #[]) (h : ∀ w, S w → R (.tuple #[]) w) : TE (BP P fn R) .ret n [] E S := ⟨fun a w ha hw =>
  bodyPost_ret (results_none hres a.tmps P w) ha.defs ⟨_, rfl, h w hw⟩⟩
theorem ret1 {fn : Func} {t : Nat} {v : Value} {R : Value → World → Prop} (hres : fn.results = #[.tmp t]) (hv : look E t = some v) (h : ∀ w, S w → R v w) : TE (BP P fn R) .ret n [] E S := ⟨fun a w ha hw =>
  bodyPost_ret (by rw [results_tmp hres a.tmps P w, ha.get t v hv]) ha.defs ⟨_, rfl, h w hw⟩⟩
theorem ret2 {fn : Func} {t u : Nat} {v v2 : Value} {R : Value → World → Prop} (hres : fn.results = #[.tmp t, .tmp u]) (hv : look E t = some v) (hv2 : look E u = some v2) (h : ∀ w, S w → R (.tuple #[v, v2]) w) : TE (BP P fn R) .ret n [] E S := ⟨fun a w ha hw =>
  bodyPost_ret (by rw [results_tmp2 hres a.tmps P w, ha.get t v hv, ha.get u v2 hv2]) ha.defs ⟨_, rfl, h w hw⟩⟩
theorem ret3 {fn : Func} {t u s : Nat} {v v2 v3 : Value} {R : Value → World → Prop} (hres : fn.results = #[.tmp t, .tmp u, .tmp s]) (hv : look E t = some v) (hv2 : look E u = some v2) (hv3 : look E s = some v3) (h : ∀ w, S w → R (.tuple #[v, v2, v3]) w) : TE (BP P fn R) .ret n [] E S := ⟨fun a w ha hw =>
  bodyPost_ret (by rw [results_tmp3 hres a.tmps P w, ha.get t v hv, ha.get u v2 hv2, ha.get s v3 hv3]) ha.defs ⟨_, rfl, h w hw⟩⟩

/-! ### operations that neither the world nor the types' table tells anything -/
def pvInt (op : BinOp) (k : IntKind) (a b : Int) : Option Value :=
  match op with
  | .add => some (.int k (k.wrap (a + b)))
  | .sub => some (.int k (k.wrap (a - b)))
  | .mul => some (.int k (k.wrap (a * b)))
  | .eql => some (.bool (a == b))
  | .neq => some (.bool (a != b))
  | .lss => some (.bool (decide (a < b)))
  | .leq => some (.bool (decide (a ≤ b)))
  | .gtr => some (.bool (decide (a > b)))
  | .geq => some (.bool (decide (a ≥ b)))
  | _ => none
def pvStr (op : BinOp) (a b : ByteArray) : Option Value :=
  match op with
  | .eql => some (.bool (a.toList == b.toList))
  | .neq => some (.bool (!(a.toList == b.toList)))
  | .lss => some (.bool (Op.bytesLess a.toList b.toList))
  | _ => none
def sameKind : IntKind → IntKind → Bool
  | .i8, .i8 | .i16, .i16 | .i32, .i32 | .i64, .i64 | .u8, .u8 | .u16, .u16 | .u32, .u32 | .u64, .u64 => true
  | _, _ => false
theorem sameKind_eq {k k' : IntKind} (h : sameKind k k' = true) : k = k' := by cases k <;> cases k' <;> first | rfl | cases h

def pv (E : Env) : Op → Option Value
  | .move x => ev E x
  | .assign x => ev E x
  | .pick c a b => match ev E c with
    | some (.bool true) => ev E a
    | some (.bool false) => ev E b
    | _ => none
  | .binOp op _ x y _ => match ev E x with
    | some (.int k a) => match ev E y with
      | some (.int k' b) => match sameKind k k' with
        | true => pvInt op k a b
        | false => none
      | _ => none
    | some (.string a) => match ev E y with
      | some (.string b) => pvStr op a b
      | _ => none
    | _ => none
  | .unOp .not _ x => match ev E x with
    | some (.bool b) => some (.bool (!b))
    | _ => none
  | .unOp .neg _ x => match ev E x with
    | some (.int k a) => some (.int k (k.wrap (0 - a)))
    | _ => none
  | .extract x i => match ev E x with
    | some (.tuple vs) => vs[i]?
    | _ => none
  | .nilCheck x => match ev E x with
    | some (.pointer (some a)) => some (.pointer (some a))
    | _ => none
  | .makeFunc fn f c => match evs E f.toList with
    | some fs => match evs E c.toList with
      | some cs => some (.func fn fs.toArray cs.toArray)
      | none => none
    | none => none
  | _ => none

theorem run_eqGuard_int {w : World} {op : BinOp} {t : TypeId} {x y : Operand} {k k' : IntKind} {a b : Int} : (eqGuard op t x y (.int k a) (.int k' b)).run P w = .ok () w := by
  cases op <;> simp [eqGuard]
theorem run_eqGuard_str {w : World} {op : BinOp} {t : TypeId} {x y : Operand} {a b : ByteArray} : (eqGuard op t x y (.string a) (.string b)).run P w = .ok () w := by
  cases op <;> simp [eqGuard]

theorem runs_pv {op : Op} {ty : TypeId} {v : Value} (h : pv E op = some v) : Reads P n D E op ty S v := by
  intro a w ha hw d pos aft g
  refine ⟨w, ?_, rfl⟩
  cases op with
  | move x => simp only [pv] at h; simp [execOp, ha.ev h]
  | assign x => simp only [pv] at h; simp [execOp, ha.ev h]
  | pick c x y =>
    simp only [pv] at h
    split at h
    · rename_i hc; simp [execOp, ha.ev hc, asBool, ha.ev h]
    · rename_i hc; simp [execOp, ha.ev hc, asBool, ha.ev h]
    · cases h
  | binOp op t x y t2 =>
    simp only [pv] at h
    split at h
    · rename_i k p hx
      split at h
      · rename_i k' q hy
        split at h
        · rename_i hk
          have := sameKind_eq hk
          subst this
          simp only [execOp, ha.ev hx, ha.ev hy, Sem.run_bind, run_eqGuard_int, Result.andThen_ok]
          cases op <;> simp only [pvInt, Option.some.injEq] at h <;> first | (cases h; done) | (subst h; simp [binOp, Op.intArith, Op.intCmp])
        · cases h
      · cases h
    · rename_i p hx
      split at h
      · rename_i q hy
        simp only [execOp, ha.ev hx, ha.ev hy, Sem.run_bind, run_eqGuard_str, Result.andThen_ok]
        cases op <;> simp only [pvStr, Option.some.injEq] at h <;> first | (cases h; done) | (subst h; simp [binOp, Op.stringOp])
      · cases h
    · cases h
  | unOp u t x =>
    cases u <;> simp only [pv] at h
    all_goals first | (cases h; done) | skip
    all_goals split at h
    all_goals first | (cases h; done) | skip
    all_goals (rename_i hx; simp only [Option.some.injEq] at h; subst h; simp [execOp, ha.ev hx, Op.unary, Op.intArith])
  | extract x i =>
    simp only [pv] at h
    split at h
    · rename_i vs hx
      simp [execOp, ha.ev hx, Instr.extract, h]
    · cases h
  | nilCheck x =>
    simp only [pv] at h
    split at h
    · rename_i p hx
      cases h
      simp [execOp, ha.ev hx]
    · cases h
  | makeFunc fn f c =>
    simp only [pv] at h
    split at h
    · rename_i fs hf
      split at h
      · rename_i cs hc
        cases h
        have e1 : f.map a.eval = fs.toArray := by rw [← ha.evs hf]; apply Array.ext'; simp
        have e2 : c.map a.eval = cs.toArray := by rw [← ha.evs hc]; apply Array.ext'; simp
        simp [execOp, Instr.makeFunc, e1, e2]
      · cases h
    · cases h
  | _ => cases h

/-- The common case: an unguarded operation that 'pv' tells. -/
theorem o_pv {qm : Bool} {ops : Array Oper} {rest : List Oper} {d : Nat} {op : Op} {ty : TypeId} {pos : String} {aft : Array Edge} {g : Option (Nat × Bool)} {v : Value} (hg : Wants ops E g) (hd : Nat.blt d n = true) (hv : pv E op = some v)
    (k : TL qm P ops Q rest n D ((d, v) :: E) S) : TL qm P ops Q (⟨some d, op, ty, pos, aft, g⟩ :: rest) n D E S := o_rd hg hd (runs_pv hv) k

/-- 'x + y', 'x - y', 'x * y' within int's range. -/
theorem o_add {qm : Bool} {ops : Array Oper} {rest : List Oper} {d : Nat} {t t2 : TypeId} {x y : Operand} {p q : Int} {ty : TypeId} {pos : String} {aft : Array Edge} {g : Option (Nat × Bool)} (hg : Wants ops E g) (hd : Nat.blt d n = true)
    (hx : ev E x = some (.int .i64 p)) (hy : ev E y = some (.int .i64 q)) (hb : -9223372036854775808 ≤ p + q ∧ p + q ≤ 9223372036854775807)
    (k : TL qm P ops Q rest n D ((d, .int .i64 (p + q)) :: E) S) : TL qm P ops Q (⟨some d, .binOp .add t x y t2, ty, pos, aft, g⟩ :: rest) n D E S :=
  o_rd hg hd (v := .int .i64 (p + q)) (runs_pv (by simp only [pv, hx, hy, sameKind, pvInt]; rw [IntWalk.i64_in _ hb])) k
theorem o_sub {qm : Bool} {ops : Array Oper} {rest : List Oper} {d : Nat} {t t2 : TypeId} {x y : Operand} {p q : Int} {ty : TypeId} {pos : String} {aft : Array Edge} {g : Option (Nat × Bool)} (hg : Wants ops E g) (hd : Nat.blt d n = true)
    (hx : ev E x = some (.int .i64 p)) (hy : ev E y = some (.int .i64 q)) (hb : -9223372036854775808 ≤ p - q ∧ p - q ≤ 9223372036854775807)
    (k : TL qm P ops Q rest n D ((d, .int .i64 (p - q)) :: E) S) : TL qm P ops Q (⟨some d, .binOp .sub t x y t2, ty, pos, aft, g⟩ :: rest) n D E S :=
  o_rd hg hd (v := .int .i64 (p - q)) (runs_pv (by simp only [pv, hx, hy, sameKind, pvInt]; rw [IntWalk.i64_in _ hb])) k
theorem o_mul {qm : Bool} {ops : Array Oper} {rest : List Oper} {d : Nat} {t t2 : TypeId} {x y : Operand} {p q : Int} {ty : TypeId} {pos : String} {aft : Array Edge} {g : Option (Nat × Bool)} (hg : Wants ops E g) (hd : Nat.blt d n = true)
    (hx : ev E x = some (.int .i64 p)) (hy : ev E y = some (.int .i64 q)) (hb : -9223372036854775808 ≤ p * q ∧ p * q ≤ 9223372036854775807)
    (k : TL qm P ops Q rest n D ((d, .int .i64 (p * q)) :: E) S) : TL qm P ops Q (⟨some d, .binOp .mul t x y t2, ty, pos, aft, g⟩ :: rest) n D E S :=
  o_rd hg hd (v := .int .i64 (p * q)) (runs_pv (by simp only [pv, hx, hy, sameKind, pvInt]; rw [IntWalk.i64_in _ hb])) k
end
end Go.Tw
