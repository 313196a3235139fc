/-
  ValueDenotes: whatever the input, the law answers true, and its arguments read as they did. Conditions: the row's own, no more.
-/
import Derived.Test.YtoincnplajnpnaaGreatQValueDenotesF
import Derived.Test.YtoincnplajnpnaaGreatRows
open Go.Proofs.Tryz
set_option linter.unusedVariables false
set_option linter.unusedSimpArgs false
set_option linter.unnecessarySimpa false
set_option maxHeartbeats 1000000
namespace Go.Proofs.YtoincnplajnpnaaGreat
open Go Go.Tw Go.Lib
theorem own : ownKnob prog.godebug = none := by kernel_rfl
theorem q2r : laidOutB prog = true := by kernel_rfl
noncomputable def qlx (os : Os) : World := World.holding prog os ⟨#[],#[],[]⟩
end Go.Proofs.YtoincnplajnpnaaGreat
namespace Go.Proofs.YtoincnplajnpnaaGreat.valueDenotes
open Go Go.Tw Go.ChangeMaps Go.ChangeShapes Go.WideShapes Go.ChangeAt Go.RowKit
set_option maxRecDepth 100000 in
theorem contract (H : Type) (enc : TypeId × Value → H) (W : World) (base : Nat) (args : Array Value) (ds gs : List (DataW H)) (before : List MemPlace)
   (hval : ∀ (j : Nat) t v,Tryz.f3.params[j]? = some t → args[j]? = some v → Value.okWide prog W .any base t v)
   (hW : DataW.Whole enc prog Tryz.f3.params.toList Rows.valueDenotesSpec.vars false W args.toList ds gs before) :
   Calls prog 3 args W fun e W' => ∃ v,e = .returned v ∧ Rows.valueDenotesSpec.post enc prog Tryz.f3 false true false false W args v W' := by
 have hW' := hW
 obtain ⟨p,q,hA0,hV,rfl,hfz,hnd⟩ := hW
 have hA : DataW.TrodAll enc prog W 0 (fun _ => true) true Tryz.f3.params.toList args.toList ds p := hA0
 rw [params3] at hA hval
 obtain ⟨rfl,rfl⟩ := trodVars_none hV
 obtain ⟨v0,vs0,d0,ds0,p0,q0,hargs,rfl,rfl,k0,r0⟩ := trodAll_cons hA
 obtain ⟨v1,vs1,d1,ds1,p1,q1,rfl,rfl,rfl,k1,r1⟩ := trodAll_cons r0
 obtain ⟨v2,vs2,d2,ds2,p2,q2,rfl,rfl,rfl,k2,r2⟩ := trodAll_cons r1
 obtain ⟨v3,vs3,d3,ds3,p3,q3,rfl,rfl,rfl,k3,r3⟩ := trodAll_cons r2
 obtain ⟨rfl,rfl,rfl⟩ := trodAll_nil r3
 obtain rfl : args = #[v0,v1,v2,v3] := by cases args; simp_all
 obtain ⟨x0,rfl,rfl,rfl,hx0⟩ := open_int underlying5 (hval 0 5 v0 rfl rfl) k0
 have hb0 := bounds_u8 hx0
 obtain ⟨x1,rfl,rfl,rfl,hx1⟩ := open_int underlying5 (hval 1 5 v1 rfl rfl) k1
 have hb1 := bounds_u8 hx1
 obtain ⟨y2,h2⟩ := q2q (hval 2 22 v2 rfl rfl) k2
 obtain ⟨y3,h3⟩ := qyi (hval 3 23 v3 rfl rfl) k3
 refine (qts (vs := [.int .u8 x0,.int .u8 x1,v2,v3]) (q2o x0 x1 v2 v3 y2 y3 hb0 hb1 h2 h3)).mono fun e W' ⟨he,hb⟩ => ?_
 subst he
 exact ⟨_,rfl,qtr hW' rfl rfl rfl underlying4 q2r (by rw [params3]; kernel_rfl) hb⟩
theorem q2s (os : Os) : laidMet prog Rows.valueDenotesRow.laid ((qlx os).forCall (fun _ _ => 0) ⟨#[], #[.int .u8 0, .int .u8 0, .slice none 0 0, .slice none 0 0], []⟩).memory :=
 laidMet_of_run' 8 (by kernel_rfl) (by kernel_rfl)
theorem reads (os : Os) {H : Type} (enc : TypeId × Value → H) : ∃ places, DataW.whole enc prog ((qlx os).forCall (fun _ _ => 0) ⟨#[], #[.int .u8 0, .int .u8 0, .slice none 0 0, .slice none 0 0], []⟩).memory Tryz.f3.params.toList Rows.valueDenotesSpec.vars false (#[.int .u8 0, .int .u8 0, .slice none 0 0, .slice none 0 0] : Array Value).toList 8 = some ([.lit (.int .u8 0), .lit (.int .u8 0), .nil, .nil], [], places) :=
 ⟨[],by kernel_rfl⟩
set_option maxRecDepth 100000 in
theorem lifted (os : Os) (started : os.Started) (H : Type) (enc : TypeId × Value → H) (F : Stop.Interp) :
   ReturnsInHanded {} Tryz.checked os 3 .any ((OpenSpec.ofChange Rows.valueDenotesSpec).preRow enc prog Tryz.f3 Rows.valueDenotesRow.domain false Rows.valueDenotesRow.laid) (((OpenSpec.ofChange Rows.valueDenotesSpec).at F).post enc prog Tryz.f3 false true false false) := by
 obtain ⟨places,hx⟩ := reads os enc
 refine returnsInHanded_of_row (C := Tryz.checked) (s := OpenSpec.ofChange Rows.valueDenotesSpec) own started (by kernel_rfl) func3
   (witness_row_at (enc := enc) (C := Tryz.checked) false (qlx os) #[.int .u8 0, .int .u8 0, .slice none 0 0, .slice none 0 0] rfl (by kernel_rfl) (by kernel_rfl) (by kernel_rfl)
     (OpenSpec.preRow_of_cond 8 hx (by kernel_rfl) (fun k hk => by cases hk) (by kernel_rfl) (q2s os))) ?_
 intro W base args ds gs before hval hW _ _ _ _ _ _
 exact contract H enc W base args ds gs before hval hW
theorem said : Rows.ValueDenotesSaid :=
 OpenClaim.holds_of_cond 3 Tryz.f3 rfl rfl rfl rfl rfl rfl rfl ⟨rfl, rfl, rfl, rfl, rfl⟩ rfl rfl rfl rfl rfl (by kernel_rfl) func3 (by kernel_rfl)
   (of_decide_eq_true (by kernel_rfl)) (by unfold Func.isWrapper; first | (rw [if_pos (by decide +kernel)]; kernel_rfl) | (rw [if_neg (by decide +kernel)]; exact ⟨rfl,rfl⟩))
   (fun os started H enc _ F => by rw [OpenClaim.pre_eq_preRow]; exact lifted os started H enc F)
end Go.Proofs.YtoincnplajnpnaaGreat.valueDenotes
namespace Go.Proofs.YtoincnplajnpnaaGreat
theorem valueDenotes_holds : Rows.ValueDenotesSaid := valueDenotes.said
#print axioms valueDenotes_holds
end Go.Proofs.YtoincnplajnpnaaGreat
