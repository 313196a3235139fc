/-
  Items taken out of a list of them, in whatever order; calls that write some of ours. Nothing of the program stands here.
-/
import Derived.Test.YtmflkokhhknlaaaDoorCallT
namespace Go.Tw
set_option linter.unusedVariables false
set_option linter.unusedSimpArgs false
set_option linter.unnecessarySimpa false
open Go Go.RowKit

/-- One item, and what is left. -/
inductive Take : Item → List Item → List Item → Prop
  | here {it : Item} {B : List Item} : Take it (it :: B) B
  | there {it x : Item} {B B' : List Item} : Take it B B' → Take it (x :: B) (x :: B')
theorem Take.perm {it : Item} {B B' : List Item} (h : Take it B B') : B.Perm (it :: B') := by
  induction h with
  | here => exact .refl _
  | there _ ih => exact (ih.cons _).trans (.swap _ _ _)
/-- So many of them. -/
inductive Takes : List Item → List Item → List Item → Prop
  | nil {B : List Item} : Takes [] B B
  | cons {it : Item} {r B B1 B0 : List Item} : Take it B B1 → Takes r B1 B0 → Takes (it :: r) B B0
theorem Takes.perm {r B B0 : List Item} (h : Takes r B B0) : B.Perm (r ++ B0) := by
  induction h with
  | nil => exact .refl _
  | cons h1 _ ih => exact h1.perm.trans (ih.cons _)
theorem St.perm {w0 w : World} {X : List Nat} {I : Hp} {B B' : List Item} (h : St w0 X I B w) (hp : B.Perm B') : St w0 X I B' w :=
  ⟨h.os, h.tape, h.output, h.size, h.keep, h.imm, fun it hi => h.own it (hp.mem_iff.2 hi), fun it hi => h.dis it (hp.mem_iff.2 hi),
    (hp.pairwise_iff (fun {x y} hxy b hb e => hxy b e hb)).1 h.apart⟩
/-- These of ours, in this order; the rest is let go. -/
theorem St.sort {w0 w : World} {X : List Nat} {I : Hp} {B B' R : List Item} (h : St w0 X I B w) (ht : Takes B' B R) : St w0 X I B' w :=
  (h.perm ht.perm).drop (List.sublist_append_left _ _)

section
variable {P : Program} {Q : Exit → Act → World → Prop} {n : Nat} {D : List Deferred} {E : Env} {S S' : World → Prop} {ops : Array Oper} {rest : List Oper} {d : Nat} {op : Op} {ty : TypeId} {pos : String} {aft : Array Edge} {g : Option (Nat × Bool)} {v : Value} {w0 : World} {X : List Nat} {I : Hp} {B : List Item}
theorem TL.pre {l : List Oper} (h : TL false P ops Q l n D E S) (hs : ∀ w, S' w → S w) : TL false P ops Q l n D E S' := ⟨fun a w ha hw => h.out a w ha (hs w hw)⟩
theorem o_callK {f : FuncId} {args : List Operand} {ats : Array TypeId} {vs : List Value} {Bc B0 : List Item} {R : Value → Hp → List Item → Prop} (hg : Wants ops E g) (hd : Nat.blt d n = true) (he : ∀ args w, (callFunc f args).run P w = .ok (.enter f args) w) (ha : evs E args = some vs)
    (hc : Fun P f vs I Bc R) (hB : Takes Bc B B0) (k : ∀ v I' B', Ext w0.heap.size I I' → R v I' B' → TL false P ops Q rest n D ((d, v) :: E) (St w0 X I' (B' ++ B0))) :
    TL false P ops Q (⟨some d, .call { callee := .value (.func f), args := args.toArray, argTypes := ats }, ty, pos, aft, g⟩ :: rest) n D E (St w0 X I B) :=
  (o_callB Bc hg hd he ha rfl hc k).pre fun w h => h.perm hB.perm
theorem o_callKT {f : FuncId} {args : List Operand} {ats : Array TypeId} {vs : List Value} {c : Operand} {first vs0 caps : List Value} {Bc B0 : List Item} {R : Value → Hp → List Item → Prop} (hg : Wants ops E g) (hd : Nat.blt d n = true) (hc0 : ev E c = some (.func (.func f) first.toArray caps.toArray)) (he : ∀ args w, (callFunc f args).run P w = .ok (.enter f args) w) (ha : evs E args = some vs0) (hvs : first ++ vs0 ++ caps = vs)
    (hc : Fun P f vs I Bc R) (hB : Takes Bc B B0) (k : ∀ v I' B', Ext w0.heap.size I I' → R v I' B' → TL false P ops Q rest n D ((d, v) :: E) (St w0 X I' (B' ++ B0))) :
    TL false P ops Q (⟨some d, .call { callee := .value c, args := args.toArray, argTypes := ats }, ty, pos, aft, g⟩ :: rest) n D E (St w0 X I B) :=
  (o_callBT Bc hg hd hc0 he ha hvs rfl hc k).pre fun w h => h.perm hB.perm
end
end Go.Tw
