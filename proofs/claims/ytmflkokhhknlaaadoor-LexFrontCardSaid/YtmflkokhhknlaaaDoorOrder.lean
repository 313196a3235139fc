/-
  A region whose order is drawn, order by order: for the few that write. Nothing of the program stands here.
-/
import Derived.Test.YtmflkokhhknlaaaDoorOps
namespace Go.Tw
set_option linter.unusedVariables false
set_option linter.unusedSimpArgs false
set_option linter.unnecessarySimpa false
open Go Go.RowKit
section
variable {P : Program} {Q : Exit → Act → World → Prop} {n : Nat} {D : List Deferred} {E : Env} {S : World → Prop} {ops : Array Oper} {fuel i : Nat} {listed listed' : Array Bool} {rs : List Nat}
/-- What is left, whatever comes next. -/
structure TA (P : Program) (ops : Array Oper) (Q : Exit → Act → World → Prop) (fuel : Nat) (listed : Array Bool) (n : Nat) (D : List Deferred) (E : Env) (S : World → Prop) : Prop where
  out : ∀ a w, Fits n D E a → S w → wpAny P .any ops Q fuel listed a w
/-- Operation i comes next. -/
structure TW (P : Program) (ops : Array Oper) (Q : Exit → Act → World → Prop) (fuel : Nat) (listed : Array Bool) (i : Nat) (n : Nat) (D : List Deferred) (E : Env) (S : World → Prop) : Prop where
  out : ∀ a w, Fits n D E a → S w → wpOp P ops Q i (wpAny P .any ops Q fuel (listed.setIfInBounds i true)) a w
inductive TWs (P : Program) (ops : Array Oper) (Q : Exit → Act → World → Prop) (fuel : Nat) (listed : Array Bool) (n : Nat) (D : List Deferred) (E : Env) (S : World → Prop) : List Nat → Prop
  | nil : TWs P ops Q fuel listed n D E S []
  | cons {i : Nat} {rs : List Nat} : TW P ops Q fuel listed i n D E S → TWs P ops Q fuel listed n D E S rs → TWs P ops Q fuel listed n D E S (i :: rs)
theorem TWs.get (h : TWs P ops Q fuel listed n D E S rs) : ∀ i ∈ rs, TW P ops Q fuel listed i n D E S := by
  induction h with
  | nil => intro i hi; cases hi
  | cons h1 _ ih =>
    intro i hi
    rcases List.mem_cons.1 hi with rfl | hi
    · exact h1
    · exact ih i hi
theorem a_end (hr : Region.ready .any ops listed = []) (h : TE Q .normal n D E S) : TA P ops Q 0 listed n D E S := ⟨fun a w ha hw => ⟨hr, h.out a w ha hw⟩⟩
theorem a_go (rs : List Nat) (hr : Region.ready .any ops listed = rs) (hne : rs.isEmpty = false) (h : TWs P ops Q fuel listed n D E S rs) : TA P ops Q (fuel + 1) listed n D E S := ⟨fun a w ha hw => by
  subst hr
  refine ⟨fun h0 => ?_, fun i hi => (h.get i hi).out a w ha hw⟩
  rw [h0] at hne
  cases hne⟩
theorem a_op {o : Oper} (listed' : Array Bool) (ho : ops[i]? = some o) (hl : listed.setIfInBounds i true = listed') (h : TL false P ops (Exit.then (wpAny P .any ops Q fuel listed') Q) [o] n D E S) : TW P ops Q fuel listed i n D E S := ⟨fun a w ha hw => by
  have h1 := h.out a w ha hw
  subst hl
  change wpList P ops _ [o] a w at h1
  unfold wpList at h1
  unfold wpOp
  simp only [ho]
  split at h1
  · rename_i hwt
    rw [if_pos hwt]
    rcases h1 with h1 | ⟨h1, h2⟩
    · exact .inl (upon_mono (fun a w h => h) (fun _ _ _ q => q) (fun q => q) h1)
    · exact .inr ⟨h1, h2⟩
  · rename_i hwt
    rw [if_neg hwt]
    exact h1⟩
theorem a_next (h : TA P ops Q fuel listed n D E S) : TE (Exit.then (wpAny P .any ops Q fuel listed) Q) .normal n D E S := ⟨fun a w ha hw => h.out a w ha hw⟩
theorem c_any {id m : Nat} {l : List Oper} (hm : P.follows .mixedOrders = true) (hn : l.length = m) (hd : ∀ w, S w → S { w with drawn := w.drawn + 1 }) (h : TA P l.toArray Q m (Array.replicate m false) n D E S) : TC P (.region id l.toArray true) Q n D E S := ⟨fun a w ha hw => by
  refine wp_region_any hm ?_
  have := h.out a _ ha (hd w hw)
  subst hn
  exact this⟩
end
end Go.Tw
