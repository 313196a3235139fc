/-
  Calls of a function value that stands in a slot: a closure, a method value, a function's name. (XCore's and XOps's lemmas, the callee an operand.) Nothing of the program stands here.
-/
import Derived.Test.YtmflkokhhknlaaaDoorOps
namespace Go.Tw
set_option linter.unusedVariables false
set_option linter.unusedSimpArgs false
set_option linter.unnecessarySimpa false
open Go Go.RowKit
section
variable {P : Program} {Q : Exit → Act → World → Prop} {n : Nat} {D : List Deferred} {E : Env} {S S' : World → Prop} {ops : Array Oper} {rest : List Oper} {d : Nat} {op : Op} {ty : TypeId} {pos : String} {aft : Array Edge} {g : Option (Nat × Bool)} {v : Value} {w0 : World} {X : List Nat} {I : Hp} {B : List Item}
theorem o_callGT {f : FuncId} {args : List Operand} {ats : Array TypeId} {vs : List Value} {c : Operand} {first vs0 caps : List Value} {ι : Type} {V : ι → Value} {SX : ι → World → Prop} {F : ι → Prop} (hg : Wants ops E g) (hd : Nat.blt d n = true) (hc0 : ev E c = some (.func (.func f) first.toArray caps.toArray)) (he : ∀ args w, (callFunc f args).run P w = .ok (.enter f args) w) (ha : evs E args = some vs0) (hvs : first ++ vs0 ++ caps = vs)
    (hc : ∀ w, S w → Ret P f vs.toArray w fun v w' => ∃ i, v = V i ∧ F i ∧ SX i w') (k : ∀ i, F i → TL false P ops Q rest n D ((d, V i) :: E) (SX i)) :
    TL false P ops Q (⟨some d, .call { callee := .value c, args := args.toArray, argTypes := ats }, ty, pos, aft, g⟩ :: rest) n D E S := ⟨fun a w hf hw => by
  refine wpList_of_run (wanted_of hg hf) ?_
  have hargs : (args.toArray.map a.eval) = vs0.toArray := by
    rw [List.map_toArray, hf.evs ha]
  have hrun : (execOp a.eval ⟨some d, .call { callee := .value c, args := args.toArray, argTypes := ats }, ty, pos, aft, g⟩).run P w = .ok (.enter f vs.toArray) w := by
    simp only [execOp, resolve, hf.ev hc0, Deferred.ofValue, hargs, Sem.run_bind, Sem.run_pure, Result.andThen_ok, invoke]
    have e := he vs.toArray w
    rw [← hvs] at e ⊢
    simpa using e
  unfold Oper.wp
  rw [hrun]
  refine Calls.mono (hc w hw) ?_
  rintro e w'' ⟨v, rfl, i, rfl, hF, hS⟩
  exact (k i hF).out _ _ (hf.put hd _) hS⟩
theorem o_callVT {qm : Bool} {f : FuncId} {args : List Operand} {ats : Array TypeId} {vs : List Value} {c : Operand} {first vs0 caps : List Value} (hg : Wants ops E g) (hd : Nat.blt d n = true) (hc0 : ev E c = some (.func (.func f) first.toArray caps.toArray)) (he : ∀ args w, (callFunc f args).run P w = .ok (.enter f args) w) (ha : evs E args = some vs0) (hvs : first ++ vs0 ++ caps = vs)
    (hc : ∀ w, S w → Ret P f vs.toArray w fun u w' => u = v ∧ S w') (k : TL qm P ops Q rest n D ((d, v) :: E) S) :
    TL qm P ops Q (⟨some d, .call { callee := .value c, args := args.toArray, argTypes := ats }, ty, pos, aft, g⟩ :: rest) n D E S := by
  cases qm
  · exact o_callGT (ι := Unit) (V := fun _ => v) (SX := fun _ => S) (F := fun _ => True) hg hd hc0 he ha hvs (fun w hw => (hc w hw).mono fun u w' ⟨h1, h2⟩ => ⟨(), h1, trivial, h2⟩) fun _ _ => k
  · refine ⟨fun a w hf hw => ?_⟩
    have hargs : (args.toArray.map a.eval) = vs0.toArray := by
      rw [List.map_toArray, hf.evs ha]
    have hrun : ∀ w, (execOp a.eval ⟨some d, .call { callee := .value c, args := args.toArray, argTypes := ats }, ty, pos, aft, g⟩).run P w = .ok (.enter f vs.toArray) w := by
      intro w
      simp only [execOp, resolve, hf.ev hc0, Deferred.ofValue, hargs, Sem.run_bind, Sem.run_pure, Result.andThen_ok, invoke]
      have e := he vs.toArray w
      rw [← hvs] at e ⊢
      simpa using e
    show wpQuiet _ _ _ _ (_ :: _) _
    unfold wpQuiet
    rw [if_pos (wanted_of hg hf)]
    refine ⟨v, fun w1 hw1 => ?_, k.out _ w (hf.put hd v) hw⟩
    unfold Oper.quietAt
    rw [hrun w1]
    exact ⟨rfl, Calls.mono (hc w1 hw1) fun e w'' ⟨u, h1, h2, h3⟩ => ⟨by rw [h1, h2], h3⟩⟩
theorem o_callPT {qm : Bool} {f : FuncId} {args : List Operand} {ats : Array TypeId} {vs : List Value} {c : Operand} {first vs0 caps : List Value} (hg : Wants ops E g) (hd : Nat.blt d n = true) (hc0 : ev E c = some (.func (.func f) first.toArray caps.toArray)) (he : ∀ args w, (callFunc f args).run P w = .ok (.enter f args) w) (ha : evs E args = some vs0) (hvs : first ++ vs0 ++ caps = vs)
    (hc : PureC P f vs v) (k : TL qm P ops Q rest n D ((d, v) :: E) S) :
    TL qm P ops Q (⟨some d, .call { callee := .value c, args := args.toArray, argTypes := ats }, ty, pos, aft, g⟩ :: rest) n D E S :=
  o_callVT hg hd hc0 he ha hvs (fun w hw => (hc w).mono fun u w' ⟨h1, h2⟩ => ⟨h1, by rw [h2]; exact hw⟩) k
theorem o_callQT {qm : Bool} {f : FuncId} {args : List Operand} {ats : Array TypeId} {vs : List Value} {c : Operand} {first vs0 caps : List Value} (hg : Wants ops E g) (hd : Nat.blt d n = true) (hc0 : ev E c = some (.func (.func f) first.toArray caps.toArray)) (he : ∀ args w, (callFunc f args).run P w = .ok (.enter f args) w) (ha : evs E args = some vs0) (hvs : first ++ vs0 ++ caps = vs)
    (hc : Fun P f vs I [] (fun u _ _ => u = v)) (k : TL qm P ops Q rest n D ((d, v) :: E) (St w0 X I B)) :
    TL qm P ops Q (⟨some d, .call { callee := .value c, args := args.toArray, argTypes := ats }, ty, pos, aft, g⟩ :: rest) n D E (St w0 X I B) :=
  o_callVT hg hd hc0 he ha hvs (fun w hw => by
      refine (hc w (St.start hw.imm)).mono ?_
      rintro v w' ⟨I', B', h1, h2, h3⟩
      exact ⟨h3, hw.still (But.of_below (h1.below))⟩) k
theorem o_callBT {f : FuncId} {args : List Operand} {ats : Array TypeId} {vs : List Value} {c : Operand} {first vs0 caps : List Value} (Bc : List Item) {B0 : List Item} {R : Value → Hp → List Item → Prop} (hg : Wants ops E g) (hd : Nat.blt d n = true) (hc0 : ev E c = some (.func (.func f) first.toArray caps.toArray)) (he : ∀ args w, (callFunc f args).run P w = .ok (.enter f args) w) (ha : evs E args = some vs0) (hvs : first ++ vs0 ++ caps = vs)
    (hB : B = Bc ++ B0) (hc : Fun P f vs I Bc R) (k : ∀ v I' B', Ext w0.heap.size I I' → R v I' B' → TL false P ops Q rest n D ((d, v) :: E) (St w0 X I' (B' ++ B0))) :
    TL false P ops Q (⟨some d, .call { callee := .value c, args := args.toArray, argTypes := ats }, ty, pos, aft, g⟩ :: rest) n D E (St w0 X I B) :=
  o_callGT (ι := Value × Hp × List Item) (V := fun i => i.1) (SX := fun i => St w0 X i.2.1 (i.2.2 ++ B0)) (F := fun i => Ext w0.heap.size I i.2.1 ∧ R i.1 i.2.1 i.2.2) hg hd hc0 he ha hvs
    (fun w hw => by
      subst hB
      refine (hc w hw.forCall).mono ?_
      rintro v w' ⟨I', B', h1, h2, h3⟩
      obtain ⟨h4, h5⟩ := hw.call h1 h2
      exact ⟨(v, I', B'), rfl, ⟨h5, h3⟩, h4⟩)
    (fun i h => k i.1 i.2.1 i.2.2 h.1 h.2)
theorem o_call0T {f : FuncId} {args : List Operand} {ats : Array TypeId} {vs : List Value} {c : Operand} {first vs0 caps : List Value} {R : Value → Prop} (hg : Wants ops E g) (hd : Nat.blt d n = true) (hc0 : ev E c = some (.func (.func f) first.toArray caps.toArray)) (he : ∀ args w, (callFunc f args).run P w = .ok (.enter f args) w) (ha : evs E args = some vs0) (hvs : first ++ vs0 ++ caps = vs)
    (hc : Fun P f vs I [] (fun v _ _ => R v)) (k : ∀ v, R v → TL false P ops Q rest n D ((d, v) :: E) (St w0 X I B)) :
    TL false P ops Q (⟨some d, .call { callee := .value c, args := args.toArray, argTypes := ats }, ty, pos, aft, g⟩ :: rest) n D E (St w0 X I B) :=
  o_callGT (ι := Value) (V := fun i => i) (SX := fun _ => St w0 X I B) (F := fun i => R i) hg hd hc0 he ha hvs
    (fun w hw => by
      refine (hc w (St.start hw.imm)).mono ?_
      rintro v w' ⟨I', B', h1, h2, h3⟩
      exact ⟨v, rfl, h3, hw.still (But.of_below (h1.below))⟩)
    (fun i h => k i h)
theorem o_callIT {f : FuncId} {args : List Operand} {ats : Array TypeId} {vs : List Value} {c : Operand} {first vs0 caps : List Value} {R : Value → Hp → Prop} (hg : Wants ops E g) (hd : Nat.blt d n = true) (hc0 : ev E c = some (.func (.func f) first.toArray caps.toArray)) (he : ∀ args w, (callFunc f args).run P w = .ok (.enter f args) w) (ha : evs E args = some vs0) (hvs : first ++ vs0 ++ caps = vs)
    (hc : Fun P f vs I [] (fun v I' _ => R v I')) (k : ∀ v I', Ext w0.heap.size I I' → R v I' → TL false P ops Q rest n D ((d, v) :: E) (St w0 X I' B)) :
    TL false P ops Q (⟨some d, .call { callee := .value c, args := args.toArray, argTypes := ats }, ty, pos, aft, g⟩ :: rest) n D E (St w0 X I B) :=
  o_callGT (ι := Value × Hp) (V := fun i => i.1) (SX := fun i => St w0 X i.2 B) (F := fun i => Ext w0.heap.size I i.2 ∧ R i.1 i.2) hg hd hc0 he ha hvs
    (fun w hw => by
      refine (hc w (St.start hw.imm)).mono ?_
      rintro v w' ⟨I', B', h1, h2, h3⟩
      have h1' : St w [] I' [] w' := h1.drop (List.nil_sublist _)
      obtain ⟨h4, h5⟩ := St.call (Bc := []) (B := B) hw h1' h2
      exact ⟨(v, I'), rfl, ⟨h5, h3⟩, h4⟩)
    (fun i h => k i.1 i.2 h.1 h.2)
end
end Go.Tw
