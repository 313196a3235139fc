/-
  The world of a walk: what nobody writes any more ('I'), what the function itself may write ('B': boxes, rows). 'St w0 X I B w': w comes of w0, of whose old blocks only those of X were written. Nothing of the program stands here.
-/
import Derived.Test.YtmflkokhhknlaaaDoorLogic
namespace Go.Tw
set_option linter.unusedVariables false
set_option linter.unusedSimpArgs false
set_option linter.unnecessarySimpa false
open Go Go.RowKit

abbrev Hp := Nat → Option Obj
def Hp.Le (I I' : Hp) : Prop := ∀ b o, I b = some o → I' b = some o
theorem Hp.Le.refl (I : Hp) : I.Le I := fun _ _ h => h
theorem Hp.Le.trans {I I' I'' : Hp} (h : I.Le I') (h' : I'.Le I'') : I.Le I'' := fun b o e => h' b o (h b o e)
def Hp.cell? (I : Hp) (a : Addr) : Option Value := match I a.block with
  | some (.cells c _ _) => if a.spot.isSome then none else c[a.off]?
  | _ => none
theorem Hp.Le.cell {I I' : Hp} (h : I.Le I') {a : Addr} {v : Value} (hc : I.cell? a = some v) : I'.cell? a = some v := by
  unfold Hp.cell? at *
  split at hc
  · rename_i c t f hb; rw [h _ _ hb]; exact hc
  · cases hc

inductive Item where
  | box (b : Nat) (o : Obj)
  | row (v : Value) (T : TypeId) (size n : Nat) (xs : List Value)
def Item.key : Item → Option Nat
  | .box b _ => some b
  | .row v _ _ _ _ => v.ownBlock
def Item.holds (w : World) : Item → Prop
  | .box b o => w.heap[b]? = some o
  | .row v T size n xs => w.ownsRow 0 T size v n xs
theorem Item.holds_lt {w : World} {it : Item} (h : it.holds w) {b : Nat} (hb : it.key = some b) : b < w.heap.size := by
  cases it with
  | box b' o => cases hb; exact (Array.getElem?_eq_some_iff.1 h).1
  | row v T s n xs => exact (World.ownsRow.lt h b hb).2

structure St (w0 : World) (X : List Nat) (I : Hp) (B : List Item) (w : World) : Prop where
  os : w.os = w0.os
  tape : w.tape = w0.tape
  output : w.output = w0.output
  size : w0.heap.size ≤ w.heap.size
  keep : ∀ k, k < w0.heap.size → k ∉ X → w.heap[k]? = w0.heap[k]?
  imm : ∀ b o, I b = some o → w.heap[b]? = some o
  own : ∀ it, it ∈ B → it.holds w
  dis : ∀ it, it ∈ B → ∀ b, it.key = some b → I b = none ∧ (w0.heap.size ≤ b ∨ b ∈ X)
  apart : B.Pairwise fun x y => ∀ b, x.key = some b → y.key ≠ some b

/-- What stands in I stands in w. -/
def Hp.In (I : Hp) (w : World) : Prop := ∀ b o, I b = some o → w.heap[b]? = some o
theorem Hp.In.cell {I : Hp} {w : World} (h : I.In w) {a : Addr} {v : Value} (hc : I.cell? a = some v) : w.cell? a = some v := by
  unfold Hp.cell? at hc
  unfold World.cell?
  split at hc
  · rename_i c t f hb; rw [h _ _ hb]; exact hc
  · cases hc
/-- All that w holds. -/
def World.hp (w : World) : Hp := fun b => w.heap[b]?
theorem hp_in (w : World) : (World.hp w).In w := fun _ _ h => h
theorem hp_cell (w : World) (a : Addr) : (World.hp w).cell? a = w.cell? a := rfl

theorem St.start {I : Hp} {w : World} (h : I.In w) : St w [] I [] w :=
  ⟨rfl, rfl, rfl, Nat.le_refl _, fun _ _ _ => rfl, h, (fun _ h => (by cases h)), (fun _ h => (by cases h)), List.Pairwise.nil⟩
theorem St.below {w0 w : World} {I : Hp} {B : List Item} (h : St w0 [] I B w) : Below w0.heap.size w0 w :=
  ⟨h.os, h.tape, h.output, h.size, fun k hk => h.keep k hk (by simp)⟩
theorem St.drop {w0 w : World} {X : List Nat} {I : Hp} {B B' : List Item} (h : St w0 X I B w) (hs : B'.Sublist B) : St w0 X I B' w :=
  ⟨h.os, h.tape, h.output, h.size, h.keep, h.imm, fun it hi => h.own it (hs.subset hi), fun it hi => h.dis it (hs.subset hi), h.apart.sublist hs⟩
theorem St.fewer {w0 w : World} {X : List Nat} {I I' : Hp} {B : List Item} (h : St w0 X I' B w) (hl : I.Le I') : St w0 X I B w := by
  refine ⟨h.os, h.tape, h.output, h.size, h.keep, fun b o e => h.imm b o (hl b o e), h.own, fun it hi b hb => ⟨?_, (h.dis it hi b hb).2⟩, h.apart⟩
  have hn := (h.dis it hi b hb).1
  cases hI : I b with
  | none => rfl
  | some o => have := hl b o hI; rw [hn] at this; cases this

/-- What a step of the function's own leaves of a world: but for block b (and new ones) all is as it was. -/
structure But (b : Option Nat) (w w' : World) : Prop where
  os : w'.os = w.os
  tape : w'.tape = w.tape
  output : w'.output = w.output
  size : w.heap.size ≤ w'.heap.size
  keep : ∀ k, k < w.heap.size → some k ≠ b → w'.heap[k]? = w.heap[k]?
theorem But.refl (b : Option Nat) (w : World) : But b w w := ⟨rfl, rfl, rfl, Nat.le_refl _, fun _ _ _ => rfl⟩
theorem But.trans {b : Option Nat} {w w' w'' : World} (h : But b w w') (h' : But b w' w'') : But b w w'' :=
  ⟨h'.os.trans h.os, h'.tape.trans h.tape, h'.output.trans h.output, Nat.le_trans h.size h'.size, fun k hk hb => (h'.keep k (Nat.lt_of_lt_of_le hk h.size) hb).trans (h.keep k hk hb)⟩
theorem But.of_grown {b : Option Nat} {w w' : World} (h : w.grownBy w' b) : But b w w' := ⟨h.os, h.tape, h.output, h.size, h.block⟩
theorem But.of_below {w w' : World} (h : Below w.heap.size w w') : But none w w' := ⟨h.os, h.tape, h.output, h.size, fun k hk _ => h.block k hk⟩
theorem But.alloc (w : World) (o : Obj) : But none w (w.alloc o) := ⟨rfl, rfl, rfl, by simp, fun k hk _ => Below.heap_alloc w o k hk⟩

theorem Item.holds_but {w w' : World} {b : Option Nat} (h : But b w w') {it : Item} (hi : it.holds w) (hne : ∀ k, it.key = some k → some k ≠ b) : it.holds w' := by
  cases it with
  | box k o =>
    have hlt := (Array.getElem?_eq_some_iff.1 hi).1
    exact (h.keep k hlt (hne k rfl)).trans hi
  | row v T s n xs =>
    refine World.ownsRow.kept hi ⟨h.os, h.tape, h.output, h.size, h.keep⟩ ?_
    cases hv : v.ownBlock with
    | none => exact .inl rfl
    | some k => exact .inr (hne k hv)

/-- B and B' but for one item. -/
inductive Put : List Item → Item → List Item → Item → Prop
  | here {it it' : Item} {B : List Item} : Put (it :: B) it (it' :: B) it'
  | there {x it it' : Item} {B B' : List Item} : Put B it B' it' → Put (x :: B) it (x :: B') it'
theorem Put.mem {B B' : List Item} {it it' : Item} (h : Put B it B' it') : it ∈ B := by
  induction h with
  | here => exact List.mem_cons_self
  | there _ ih => exact List.mem_cons_of_mem _ ih
theorem Put.mem' {B B' : List Item} {it it' : Item} (h : Put B it B' it') : ∀ x, x ∈ B' → x = it' ∨ (x ∈ B ∧ (B.Pairwise (fun x y => ∀ b, x.key = some b → y.key ≠ some b) → ∀ b, it.key = some b → x.key ≠ some b)) := by
  induction h with
  | @here it it' B =>
    intro x hx
    rcases List.mem_cons.1 hx with rfl | hx
    · exact .inl rfl
    · exact .inr ⟨List.mem_cons_of_mem _ hx, fun hp b hb => (List.pairwise_cons.1 hp).1 x hx b hb⟩
  | @there y it it' B B' hput ih =>
    intro x hx
    rcases List.mem_cons.1 hx with rfl | hx
    · exact .inr ⟨List.mem_cons_self, fun hp b hb => fun hxb => (List.pairwise_cons.1 hp).1 it hput.mem b hxb hb⟩
    · rcases ih x hx with h | ⟨h1, h2⟩
      · exact .inl h
      · exact .inr ⟨List.mem_cons_of_mem _ h1, fun hp => h2 (List.pairwise_cons.1 hp).2⟩
theorem Put.apart {B B' : List Item} {it it' : Item} (h : Put B it B' it') (hp : B.Pairwise (fun x y => ∀ b, x.key = some b → y.key ≠ some b))
    (hk : ∀ b, it'.key = some b → it.key = some b ∨ ∀ x, x ∈ B → x.key ≠ some b) : B'.Pairwise (fun x y => ∀ b, x.key = some b → y.key ≠ some b) := by
  induction h with
  | @here it it' B =>
    refine List.pairwise_cons.2 ⟨fun y hy b hb => ?_, (List.pairwise_cons.1 hp).2⟩
    rcases hk b hb with h1 | h1
    · exact (List.pairwise_cons.1 hp).1 y hy b h1
    · exact h1 y (List.mem_cons_of_mem _ hy)
  | @there x it it' B B' hput ih =>
    obtain ⟨h1, h2⟩ := List.pairwise_cons.1 hp
    refine List.pairwise_cons.2 ⟨fun y hy b hb => ?_, ih h2 (fun b hb => (hk b hb).imp id fun h y hy => h y (List.mem_cons_of_mem _ hy))⟩
    rcases hput.mem' y hy with rfl | ⟨hy', _⟩
    · intro hyb
      rcases hk b hyb with h3 | h3
      · exact h1 it hput.mem b hb h3
      · exact h3 x List.mem_cons_self hb
    · exact h1 y hy' b hb

/-- One item is turned. -/
theorem St.turn {w0 w w' : World} {X : List Nat} {I : Hp} {B B' : List Item} {it it' : Item} (h : St w0 X I B w) (hput : Put B it B' it') (hb : But it.key w w') (hi : it'.holds w')
    (hk : ∀ b, it'.key = some b → it.key = some b ∨ w.heap.size ≤ b) : St w0 X I B' w' := by
  have hd := h.dis it hput.mem
  refine ⟨hb.os.trans h.os, hb.tape.trans h.tape, hb.output.trans h.output, Nat.le_trans h.size hb.size, fun k hlt hX => ?_, fun b o e => ?_, fun x hx => ?_, fun x hx b hxb => ?_, ?_⟩
  · rw [hb.keep k (Nat.lt_of_lt_of_le hlt h.size) (fun e => ?_)]
    · exact h.keep k hlt hX
    · rcases (hd k e.symm).2 with h1 | h1
      · omega
      · exact hX h1
  · have hw := h.imm b o e
    have hlt := (Array.getElem?_eq_some_iff.1 hw).1
    rw [hb.keep b hlt (fun e' => by rw [(hd b e'.symm).1] at e; cases e)]
    exact hw
  · rcases hput.mem' x hx with rfl | ⟨hx', hne⟩
    · exact hi
    · exact Item.holds_but hb (h.own x hx') (fun k hk e => hne h.apart k e.symm hk)
  · rcases hput.mem' x hx with rfl | ⟨hx', _⟩
    · rcases hk b hxb with h1 | h1
      · exact hd b h1
      · refine ⟨?_, .inl (Nat.le_trans h.size h1)⟩
        cases hI : I b with
        | none => rfl
        | some o => have := (Array.getElem?_eq_some_iff.1 (h.imm b o hI)).1; omega
    · exact h.dis x hx' b hxb
  · refine hput.apart h.apart (fun b hb' => (hk b hb').imp id fun hge x hx hxb => ?_)
    have := Item.holds_lt (h.own x hx) hxb
    omega

/-- One item more. -/
theorem St.new {w0 w w' : World} {X : List Nat} {I : Hp} {B : List Item} {it : Item} (h : St w0 X I B w) (hb : But none w w') (hi : it.holds w') (hk : ∀ b, it.key = some b → w.heap.size ≤ b) : St w0 X I (it :: B) w' := by
  have hIlt : ∀ b o, I b = some o → b < w.heap.size := fun b o e => (Array.getElem?_eq_some_iff.1 (h.imm b o e)).1
  refine ⟨hb.os.trans h.os, hb.tape.trans h.tape, hb.output.trans h.output, Nat.le_trans h.size hb.size, fun k hlt hX => ?_, fun b o e => ?_, fun x hx => ?_, fun x hx b hxb => ?_, ?_⟩
  · rw [hb.keep k (Nat.lt_of_lt_of_le hlt h.size) (fun e => (by cases e))]
    exact h.keep k hlt hX
  · rw [hb.keep b (hIlt b o e) (fun e => (by cases e))]
    exact h.imm b o e
  · rcases List.mem_cons.1 hx with rfl | hx
    · exact hi
    · exact Item.holds_but hb (h.own x hx) (fun k hk e => (by cases e))
  · rcases List.mem_cons.1 hx with rfl | hx
    · have hge := hk b hxb
      refine ⟨?_, .inl (Nat.le_trans h.size hge)⟩
      cases hI : I b with
      | none => rfl
      | some o => have := hIlt b o hI; omega
    · exact h.dis x hx b hxb
  · refine List.pairwise_cons.2 ⟨fun y hy b hb' hyb => ?_, h.apart⟩
    have := Item.holds_lt (h.own y hy) hyb
    have := hk b hb'
    omega
/-- Nothing of ours is turned. -/
theorem St.still {w0 w w' : World} {X : List Nat} {I : Hp} {B : List Item} (h : St w0 X I B w) (hb : But none w w') : St w0 X I B w' := by
  have hIlt : ∀ b o, I b = some o → b < w.heap.size := fun b o e => (Array.getElem?_eq_some_iff.1 (h.imm b o e)).1
  refine ⟨hb.os.trans h.os, hb.tape.trans h.tape, hb.output.trans h.output, Nat.le_trans h.size hb.size, fun k hlt hX => ?_, fun b o e => ?_, fun x hx => ?_, h.dis, h.apart⟩
  · rw [hb.keep k (Nat.lt_of_lt_of_le hlt h.size) (fun e => (by cases e))]
    exact h.keep k hlt hX
  · rw [hb.keep b (hIlt b o e) (fun e => (by cases e))]
    exact h.imm b o e
  · exact Item.holds_but hb (h.own x hx) (fun k hk e => (by cases e))

/-- I' holds more: what is new there lies from N on. -/
structure Ext (N : Nat) (I I' : Hp) : Prop where
  le : I.Le I'
  new : ∀ b, I b = none → I' b ≠ none → N ≤ b
theorem Ext.refl (N : Nat) (I : Hp) : Ext N I I := ⟨Hp.Le.refl I, fun b h h' => absurd h h'⟩
theorem Ext.trans {N N' : Nat} {I I' I'' : Hp} (h : Ext N I I') (h' : Ext N' I' I'') (hN : N ≤ N') : Ext N I I'' :=
  ⟨h.le.trans h'.le, fun b h1 h2 => by
    by_cases h3 : I' b = none
    · exact Nat.le_trans hN (h'.new b h3 h2)
    · exact h.new b h1 h3⟩

/-- An item is given over: nobody writes it any more. -/
theorem St.seal_ {w0 w : World} {X : List Nat} {I : Hp} {B : List Item} {b : Nat} {o : Obj} (h : St w0 X I (.box b o :: B) w) : St w0 X (fun k => if k = b then some o else I k) B w := by
  obtain ⟨hb, hp⟩ := List.pairwise_cons.1 h.apart
  refine ⟨h.os, h.tape, h.output, h.size, h.keep, fun k o' e => ?_, fun it hi => h.own it (List.mem_cons_of_mem _ hi), fun it hi k hk => ⟨?_, (h.dis it (List.mem_cons_of_mem _ hi) k hk).2⟩, hp⟩
  · by_cases hkb : k = b
    · subst hkb
      rw [if_pos rfl] at e
      cases e
      exact h.own _ List.mem_cons_self
    · rw [if_neg hkb] at e
      exact h.imm k o' e
  · rw [if_neg (fun e => hb it hi b rfl (by rw [← e]; exact hk))]
    exact (h.dis it (List.mem_cons_of_mem _ hi) k hk).1
end Go.Tw
