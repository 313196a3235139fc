/-
  TapeFront: whatever the input, the law answers true, and its arguments read as they did. Conditions: the row's own, no more.
-/
import Derived.Test.YtfcmhcaggdakbaaGreatDoorQTapeFrontF
import Derived.Test.YtfcmhcaggdakbaaGreatDoorCards
import Derived.Test.YtfcmhcaggdakbaaGreatDoorTie
import Derived.Lay
set_option linter.unusedVariables false
set_option linter.unusedSimpArgs false
set_option linter.unnecessarySimpa false
set_option maxHeartbeats 1000000
namespace Go.Proofs.YtfcmhcaggdakbaaGreatDoor
open Go Go.Tw Go.Lib Go.RowKit Go.ChangeShapes
theorem own : ownKnob Tryz.prog.godebug = none := by kernel_rfl
theorem laidOut : laidOutB Tryz.prog = true := by kernel_rfl
theorem u8extra : U8Extra Tryz.prog Tryz.lays260_ren := ⟨by kernel_rfl, by kernel_rfl, by kernel_rfl, by kernel_rfl, by kernel_rfl, by kernel_rfl, by kernel_rfl⟩
def listed : List (String × DataW Unit) := [("math/bits.deBruijn32tab", Rows.laid_math_bits_deBruijn32tab), ("math/bits.deBruijn64tab", Rows.laid_math_bits_deBruijn64tab), ("internal/strconv.uint64pow10", Rows.laid_internal_strconv_uint64pow10), ("unicode/utf8.acceptRanges", Rows.laid_unicode_utf8_acceptRanges), ("strconv.ErrRange", Rows.laid_strconv_ErrRange), ("strconv.ErrSyntax", Rows.laid_strconv_ErrSyntax), ("unicode/utf8.first", Rows.laid_unicode_utf8_first)]
theorem tabs_of {W : World} (hL : laidMet Tryz.prog listed W) : Tabs (World.hp W) := by
  have e1 : (Go.Pinned.utf8First : DataW Unit) = firstData := by kernel_rfl
  have e2 : (Rows.laid_unicode_utf8_acceptRanges : DataW Unit) = acceptData := by kernel_rfl
  have r1 : VarReads Tryz.prog W "unicode/utf8.first" (Go.Pinned.utf8First : DataW Unit) := laidMet.reads hL (.tail _ (.tail _ (.tail _ (.tail _ (.tail _ (.tail _ (.head _)))))))
  have r2 : VarReads Tryz.prog W "unicode/utf8.acceptRanges" (Rows.laid_unicode_utf8_acceptRanges : DataW Unit) := laidMet.reads hL (.tail _ (.tail _ (.tail _ (.head _))))
  rw [e1] at r1
  rw [e2] at r2
  obtain ⟨t1, t2⟩ := utf8Tabs_of_reads Tryz.lays260 u8extra r1 r2
  exact ⟨fun c hc => t1 c hc, fun i hi => t2 i hi⟩
theorem err_of {W : World} {n nm : String} {d : DataW Unit} {g t : Nat} {ms : Array (String × TypeId)} (h : VarReads Tryz.prog W n (.iface nm d)) (hg : Tryz.prog.globalNamed n = some g) (ht : (Tryz.prog.globals[g]?).map (·.type) = some t) (hi : Tryz.prog.underlying t = some (.interface ms)) :
    ∃ ev, (World.hp W).cell? ⟨g, 0, none⟩ = some ev ∧ (ev = .nilIface ∨ ∃ te pe, ev = .iface te pe) := by
  obtain ⟨g0, t0, cs, fuel, p, h1, h2, h3, h4⟩ := h
  obtain rfl := Option.some.inj (hg.symm.trans h1)
  obtain rfl := Option.some.inj (ht.symm.trans h2)
  obtain ⟨f1, u, v, he, _⟩ := iface_of_trod hi h4
  refine ⟨.iface u v, ?_, .inr ⟨u, v, rfl⟩⟩
  rw [hp_cell, World.var?_cell hg h3 0]
  have : cs.toList[0]? = some (.iface u v) := by rw [he]; rfl
  simpa using this
theorem errs_of {W : World} (hL : laidMet Tryz.prog listed W) : Errs (World.hp W) :=
  ⟨err_of (laidMet.reads hL (.tail _ (.tail _ (.tail _ (.tail _ (.tail _ (.head _))))))) (by kernel_rfl) (by kernel_rfl) Tryz.underlying142,
   err_of (laidMet.reads hL (.tail _ (.tail _ (.tail _ (.tail _ (.head _)))))) (by kernel_rfl) (by kernel_rfl) Tryz.underlying142⟩
noncomputable def laidWorld (os : Os) : World := World.laidAll Tryz.prog os listed
theorem laid_met (os : Os) (args : Array Value) : laidMet Tryz.prog listed ((laidWorld os).forCall (fun _ _ => 0) ⟨#[], args, []⟩).memory := laidMet_laidAll args (by kernel_rfl) (by kernel_rfl)
end Go.Proofs.YtfcmhcaggdakbaaGreatDoor
namespace Go.Proofs.YtfcmhcaggdakbaaGreatDoor.tapeFront
open Go Go.Tw Go.ChangeMaps Go.ChangeShapes Go.WideShapes Go.ChangeAt Go.RowKit
set_option maxRecDepth 100000 in
theorem contract (H : Type) (enc : TypeId × Value → H) (W : World) (base : Nat) (args : Array Value) (ds gs : List (DataW H)) (before : List MemPlace)
    (hval : ∀ (j : Nat) t v, Tryz.f12.params[j]? = some t → args[j]? = some v → Value.okWide Tryz.prog W .any base t v)
    (hW : DataW.Whole enc Tryz.prog Tryz.f12.params.toList Rows.tapeFrontSpec.vars false W args.toList ds gs before) (hL : laidMet Tryz.prog Rows.tapeFrontRow.laid W) (hsh : W.ShapedOpen Tryz.prog) :
    Calls Tryz.prog 12 args W fun e W' => ∃ v, e = .returned v ∧ Rows.tapeFrontSpec.post enc Tryz.prog Tryz.f12 false true false false W args v W' := by
  have hL' : laidMet Tryz.prog listed W := hL
  have hT : Tabs (World.hp W) := tabs_of hL'
  have hE : Errs (World.hp W) := errs_of hL'
  have hM : Mx (World.hp W) := mx_of hsh
  have hW' := hW
  obtain ⟨p, q, hA0, hV, rfl, hfz, hnd⟩ := hW
  have hA : DataW.TrodAll enc Tryz.prog W 0 (fun _ => true) true Tryz.f12.params.toList args.toList ds p := hA0
  rw [Tryz.params12] at hA hval
  obtain ⟨rfl, rfl⟩ := trodVars_none hV
  obtain ⟨v0, vs0, d0, ds0, p0, q0, hargs, rfl, rfl, k0, r0⟩ := trodAll_cons hA
  obtain ⟨v1, vs1, d1, ds1, p1, q1, rfl, rfl, rfl, k1, r1⟩ := trodAll_cons r0
  obtain ⟨v2, vs2, d2, ds2, p2, q2, rfl, rfl, rfl, k2, r2⟩ := trodAll_cons r1
  obtain ⟨v3, vs3, d3, ds3, p3, q3, rfl, rfl, rfl, k3, r3⟩ := trodAll_cons r2
  obtain ⟨rfl, rfl, rfl⟩ := trodAll_nil r3
  obtain rfl : args = #[v0, v1, v2, v3] := by cases args; simp_all
  obtain ⟨x0, rfl, rfl, rfl, hx0⟩ := open_int Tryz.underlying5 (hval 0 5 v0 rfl rfl) k0
  have hb0 := bounds_u8 hx0
  obtain ⟨y1, h1⟩ := open_By (hval 1 64 v1 rfl rfl) k1
  obtain ⟨y2, h2⟩ := open_Tn (hval 2 65 v2 rfl rfl) k2
  obtain ⟨x3, rfl, rfl, rfl, hx3⟩ := open_int Tryz.underlying5 (hval 3 5 v3 rfl rfl) k3
  have hb3 := bounds_u8 hx3
  refine (calls_of_fun (vs := [.int .u8 x0, v1, v2, .int .u8 x3]) (TapeFront_any x0 x3 v1 v2 y1 y2 hb0 hb3 h1 h2 hT hM hE)).mono fun e W' ⟨he, hb⟩ => ?_
  subst he
  exact ⟨_, rfl, post_true hW' rfl rfl rfl Tryz.underlying4 laidOut (by rw [Tryz.params12]; kernel_rfl) hb⟩
theorem reads (os : Os) {H : Type} (enc : TypeId × Value → H) : ∃ places, DataW.whole enc Tryz.prog ((laidWorld os).forCall (fun _ _ => 0) ⟨#[], #[.int .u8 0, .slice none 0 0, .slice none 0 0, .int .u8 0], []⟩).memory Tryz.f12.params.toList Rows.tapeFrontSpec.vars false (#[.int .u8 0, .slice none 0 0, .slice none 0 0, .int .u8 0] : Array Value).toList 8 = some ([.lit (.int .u8 0), .nil, .nil, .lit (.int .u8 0)], [], places) :=
  ⟨[], by kernel_rfl⟩
set_option maxRecDepth 100000 in
theorem lifted (os : Os) (started : os.Started) (H : Type) (enc : TypeId × Value → H) (F : Stop.Interp) :
    ReturnsInHanded {} Tryz.checked os 12 .any ((OpenSpec.ofChange Rows.tapeFrontSpec).preRow enc Tryz.prog Tryz.f12 Rows.tapeFrontRow.domain false Rows.tapeFrontRow.laid) (((OpenSpec.ofChange Rows.tapeFrontSpec).at F).post enc Tryz.prog Tryz.f12 false true false false) := by
  obtain ⟨places, hx⟩ := reads os enc
  refine returnsInHanded_of_row (C := Tryz.checked) (s := OpenSpec.ofChange Rows.tapeFrontSpec) own started (by kernel_rfl) Tryz.func12
    (witness_row_at (enc := enc) (C := Tryz.checked) false (laidWorld os) #[.int .u8 0, .slice none 0 0, .slice none 0 0, .int .u8 0] rfl (by kernel_rfl) (by kernel_rfl) (by kernel_rfl)
      (OpenSpec.preRow_of_cond 8 hx (by kernel_rfl) (fun k hk => by cases hk) (by kernel_rfl) (laid_met os _))) ?_
  intro W base args ds gs before hval hW _ _ _ hL hsh _
  exact contract H enc W base args ds gs before hval hW hL hsh
theorem named : Tryz.pinned.checked.prog.funcNamed Rows.tapeFrontRow.func = some 12 := by kernel_rfl
theorem facts : joinedFacts Tryz.pinned.checked.prog 12 Tryz.f12 (OpenSpec.ofChange Rows.tapeFrontSpec).bare Rows.tapeFrontRow = true := by kernel_rfl
theorem inst : Tryz.f12.isInstance Tryz.pinned.checked.prog Rows.tapeFrontRow.origin Rows.tapeFrontRow.targs := of_decide_eq_true (by kernel_rfl)
theorem wrap : Tryz.f12.isWrapper Tryz.pinned.checked.prog Rows.tapeFrontRow.wrapper Rows.tapeFrontRow.mainSum := by unfold Func.isWrapper; first | (rw [if_pos (by decide +kernel)]; kernel_rfl) | (rw [if_neg (by decide +kernel)]; exact ⟨rfl, rfl⟩)
theorem said : Rows.TapeFrontSaid :=
  OpenClaim.holds_of_cond 12 Tryz.f12 rfl rfl rfl rfl rfl rfl rfl ⟨rfl, rfl, rfl, rfl, rfl⟩ rfl rfl rfl rfl rfl named Tryz.func12 facts inst wrap
    (fun os started H enc _ F => by rw [OpenClaim.pre_eq_preRow]; exact lifted os started H enc F)
theorem plain (f : FuncId) (fn : Func) (hf : Tryz.pinned.checked.prog.funcNamed "talweg/talweglaw14.TapeFront" = some f) (hfn : Tryz.pinned.checked.prog.funcs[f]? = some fn) :
    true = Tryz.pinned.checked.prog.looks [] ∧ ∀ (j : Nat) t, fn.params[j]? = some t → Tryz.pinned.checked.prog.wantsStandIn t = false := by
  obtain rfl : f = 12 := Option.some.inj ((show Tryz.prog.funcNamed "talweg/talweglaw14.TapeFront" = some 12 by kernel_rfl).symm.trans hf) |>.symm
  obtain rfl : fn = Tryz.f12 := (Option.some.inj (Tryz.func12.symm.trans hfn)).symm
  refine ⟨by kernel_rfl, fun j t ht => ?_⟩
  rw [Tryz.params12] at ht
  have hm := Array.mem_of_getElem? ht
  have hall : ((Tryz.f12.params).toList.all fun t => !Tryz.prog.wantsStandIn t) = true := by rw [Tryz.params12]; kernel_rfl
  rw [Tryz.params12] at hall
  have := List.all_eq_true.1 hall t (by simpa using hm)
  exact (Bool.not_eq_true' _).mp this
theorem card : Rows.TapeFrontCardSaid :=
  Claim7.holds_tied_plain_at .later [] _ _ _ _ said (fun _ h => by cases h) (by kernel_rfl) (fun _ h => by cases h) tapeFront_row_tie rfl ⟨rfl, rfl⟩ (by kernel_rfl) rfl plain (by kernel_rfl)
end Go.Proofs.YtfcmhcaggdakbaaGreatDoor.tapeFront
namespace Go.Proofs.YtfcmhcaggdakbaaGreatDoor
theorem tapeFront_holds : Rows.TapeFrontCardSaid := tapeFront.card
#print axioms tapeFront_holds
end Go.Proofs.YtfcmhcaggdakbaaGreatDoor
