/-
  TapeLowers: whatever the input, the law answers true, and its arguments read as they did. Conditions: the row's own, no more.
-/
import Derived.Test.YtfcmhcaggdakbaaGreatDoorQTapeLowersF
import Derived.Test.YtfcmhcaggdakbaaGreatDoorCards
import Derived.Test.YtfcmhcaggdakbaaGreatDoorTie
import Derived.Lay
open Go.Proofs.Tryz
set_option linter.unusedVariables false
set_option linter.unusedSimpArgs false
set_option linter.unnecessarySimpa false
set_option maxHeartbeats 1000000
namespace Go.Proofs.YtfcmhcaggdakbaaGreatDoor
open Go Go.Tw Go.Lib Go.RowKit Go.ChangeShapes
theorem own : ownKnob prog.godebug = none := by kernel_rfl
theorem q54 : laidOutB prog = true := by kernel_rfl
theorem q55 : U8Extra prog Tryz.lays260_ren := ⟨by kernel_rfl, by kernel_rfl, by kernel_rfl, by kernel_rfl, by kernel_rfl, by kernel_rfl, by kernel_rfl⟩
def qy : List (String × DataW Unit) := [("math/bits.deBruijn32tab", Rows.laid_math_bits_deBruijn32tab), ("math/bits.deBruijn64tab", Rows.laid_math_bits_deBruijn64tab), ("internal/strconv.uint64pow10", Rows.laid_internal_strconv_uint64pow10), ("unicode/utf8.acceptRanges", Rows.laid_unicode_utf8_acceptRanges), ("strconv.ErrRange", Rows.laid_strconv_ErrRange), ("strconv.ErrSyntax", Rows.laid_strconv_ErrSyntax), ("unicode/utf8.first", Rows.laid_unicode_utf8_first)]
theorem q56 {W : World} (hL : laidMet prog qy W) : Tabs (World.hp W) := by
 have e1 : (Go.Pinned.utf8First : DataW Unit) = firstData := by kernel_rfl
 have e2 : (Rows.laid_unicode_utf8_acceptRanges : DataW Unit) = acceptData := by kernel_rfl
 have r1 : VarReads prog W "unicode/utf8.first" (Go.Pinned.utf8First : DataW Unit) := laidMet.reads hL (.tail _ (.tail _ (.tail _ (.tail _ (.tail _ (.tail _ (.head _)))))))
 have r2 : VarReads prog W "unicode/utf8.acceptRanges" (Rows.laid_unicode_utf8_acceptRanges : DataW Unit) := laidMet.reads hL (.tail _ (.tail _ (.tail _ (.head _))))
 rw [e1] at r1
 rw [e2] at r2
 obtain ⟨t1, t2⟩ := utf8Tabs_of_reads Tryz.lays260 q55 r1 r2
 exact ⟨fun c hc => t1 c hc, fun i hi => t2 i hi⟩
theorem qug {W : World} {n nm : String} {d : DataW Unit} {g t : Nat} {ms : Array (String × TypeId)} (h : VarReads prog W n (.iface nm d)) (hg : prog.globalNamed n = some g) (ht : (prog.globals[g]?).map (·.type) = some t) (hi : prog.underlying t = some (.interface ms)) :
   ∃ ev, (World.hp W).cell? ⟨g, 0, none⟩ = some ev ∧ (ev = .nilIface ∨ ∃ te pe, ev = .iface te pe) := by
 obtain ⟨g0, t0, cs, fuel, p, h1, h2, h3, h4⟩ := h
 obtain rfl := Option.some.inj (hg.symm.trans h1)
 obtain rfl := Option.some.inj (ht.symm.trans h2)
 obtain ⟨f1, u, v, he, _⟩ := iface_of_trod hi h4
 refine ⟨.iface u v, ?_, .inr ⟨u, v, rfl⟩⟩
 rw [qnf, World.var?_cell hg h3 0]
 have : cs.toList[0]? = some (.iface u v) := by rw [he]; rfl
 simpa using this
theorem q57 {W : World} (hL : laidMet prog qy W) : Errs (World.hp W) :=
 ⟨qug (laidMet.reads hL (.tail _ (.tail _ (.tail _ (.tail _ (.tail _ (.head _))))))) (by kernel_rfl) (by kernel_rfl) underlying142,
  qug (laidMet.reads hL (.tail _ (.tail _ (.tail _ (.tail _ (.head _)))))) (by kernel_rfl) (by kernel_rfl) underlying142⟩
noncomputable def qm2 (os : Os) : World := World.laidAll prog os qy
theorem q58 (os : Os) (args : Array Value) : laidMet prog qy ((qm2 os).forCall (fun _ _ => 0) ⟨#[], args, []⟩).memory := laidMet_laidAll args (by kernel_rfl) (by kernel_rfl)
end Go.Proofs.YtfcmhcaggdakbaaGreatDoor
namespace Go.Proofs.YtfcmhcaggdakbaaGreatDoor.tapeLowers
open Go Go.Tw Go.ChangeMaps Go.ChangeShapes Go.WideShapes Go.ChangeAt Go.RowKit
set_option maxRecDepth 100000 in
theorem contract (H : Type) (enc : TypeId × Value → H) (W : World) (base : Nat) (args : Array Value) (ds gs : List (DataW H)) (before : List MemPlace)
   (hval : ∀ (j : Nat) t v, Tryz.f10.params[j]? = some t → args[j]? = some v → Value.okWide prog W .any base t v)
   (hW : DataW.Whole enc prog Tryz.f10.params.toList Rows.tapeLowersSpec.vars false W args.toList ds gs before) (hL : laidMet prog Rows.tapeLowersRow.laid W) (hsh : W.ShapedOpen prog) :
   Calls prog 10 args W fun e W' => ∃ v, e = .returned v ∧ Rows.tapeLowersSpec.post enc prog Tryz.f10 false true false false W args v W' := by
 have hL' : laidMet prog qy W := hL
 have hT : Tabs (World.hp W) := q56 hL'
 have hE : Errs (World.hp W) := q57 hL'
 have hM : Mx (World.hp W) := qzs hsh
 have hW' := hW
 obtain ⟨p, q, hA0, hV, rfl, hfz, hnd⟩ := hW
 have hA : DataW.TrodAll enc prog W 0 (fun _ => true) true Tryz.f10.params.toList args.toList ds p := hA0
 rw [params10] at hA hval
 obtain ⟨rfl, rfl⟩ := trodVars_none hV
 obtain ⟨v0, vs0, d0, ds0, p0, q0, hargs, rfl, rfl, k0, r0⟩ := trodAll_cons hA
 obtain ⟨rfl, rfl, rfl⟩ := trodAll_nil r0
 obtain rfl : args = #[v0] := by cases args; simp_all
 obtain ⟨y0, a0, b0, c0, e0, n0, rfl, h0⟩ := q53 (hval 0 26 v0 rfl rfl) k0
 refine (quw (vs := [.agg #[a0, b0, c0, e0]]) (q5p a0 b0 c0 e0 y0 n0 h0 hT hM hE)).mono fun e W' ⟨he, hb⟩ => ?_
 subst he
 exact ⟨_, rfl, quv hW' rfl rfl rfl underlying4 q54 (by rw [params10]; kernel_rfl) hb⟩
theorem reads (os : Os) {H : Type} (enc : TypeId × Value → H) : ∃ places, DataW.whole enc prog ((qm2 os).forCall (fun _ _ => 0) ⟨#[], #[.agg #[.slice none 0 0, .slice none 0 0, .slice none 0 0, .slice none 0 0]], []⟩).memory Tryz.f10.params.toList Rows.tapeLowersSpec.vars false (#[.agg #[.slice none 0 0, .slice none 0 0, .slice none 0 0, .slice none 0 0]] : Array Value).toList 8 = some ([.agg [.nil, .nil, .nil, .nil]], [], places) :=
 ⟨[], by kernel_rfl⟩
set_option maxRecDepth 100000 in
theorem lifted (os : Os) (started : os.Started) (H : Type) (enc : TypeId × Value → H) (F : Stop.Interp) :
   ReturnsInHanded {} Tryz.checked os 10 .any ((OpenSpec.ofChange Rows.tapeLowersSpec).preRow enc prog Tryz.f10 Rows.tapeLowersRow.domain false Rows.tapeLowersRow.laid) (((OpenSpec.ofChange Rows.tapeLowersSpec).at F).post enc prog Tryz.f10 false true false false) := by
 obtain ⟨places, hx⟩ := reads os enc
 refine returnsInHanded_of_row (C := Tryz.checked) (s := OpenSpec.ofChange Rows.tapeLowersSpec) own started (by kernel_rfl) func10
   (witness_row_at (enc := enc) (C := Tryz.checked) false (qm2 os) #[.agg #[.slice none 0 0, .slice none 0 0, .slice none 0 0, .slice none 0 0]] rfl (by kernel_rfl) (by kernel_rfl) (by kernel_rfl)
     (OpenSpec.preRow_of_cond 8 hx (by kernel_rfl) (fun k hk => by cases hk) (by kernel_rfl) (q58 os _))) ?_
 intro W base args ds gs before hval hW _ _ _ hL hsh _
 exact contract H enc W base args ds gs before hval hW hL hsh
theorem named : Tryz.pinned.checked.prog.funcNamed Rows.tapeLowersRow.func = some 10 := by kernel_rfl
theorem facts : joinedFacts Tryz.pinned.checked.prog 10 Tryz.f10 (OpenSpec.ofChange Rows.tapeLowersSpec).bare Rows.tapeLowersRow = true := by kernel_rfl
theorem inst : Tryz.f10.isInstance Tryz.pinned.checked.prog Rows.tapeLowersRow.origin Rows.tapeLowersRow.targs := of_decide_eq_true (by kernel_rfl)
theorem wrap : Tryz.f10.isWrapper Tryz.pinned.checked.prog Rows.tapeLowersRow.wrapper Rows.tapeLowersRow.mainSum := by unfold Func.isWrapper; first | (rw [if_pos (by decide +kernel)]; kernel_rfl) | (rw [if_neg (by decide +kernel)]; exact ⟨rfl, rfl⟩)
theorem said : Rows.TapeLowersSaid :=
 OpenClaim.holds_of_cond 10 Tryz.f10 rfl rfl rfl rfl rfl rfl rfl ⟨rfl, rfl, rfl, rfl, rfl⟩ rfl rfl rfl rfl rfl named func10 facts inst wrap
   (fun os started H enc _ F => by rw [OpenClaim.pre_eq_preRow]; exact lifted os started H enc F)
theorem plain (f : FuncId) (fn : Func) (hf : Tryz.pinned.checked.prog.funcNamed "talweg/talweglaw14.TapeLowers" = some f) (hfn : Tryz.pinned.checked.prog.funcs[f]? = some fn) :
   true = Tryz.pinned.checked.prog.looks [] ∧ ∀ (j : Nat) t, fn.params[j]? = some t → Tryz.pinned.checked.prog.wantsStandIn t = false := by
 obtain rfl : f = 10 := Option.some.inj ((show prog.funcNamed "talweg/talweglaw14.TapeLowers" = some 10 by kernel_rfl).symm.trans hf) |>.symm
 obtain rfl : fn = Tryz.f10 := (Option.some.inj (func10.symm.trans hfn)).symm
 refine ⟨by kernel_rfl, fun j t ht => ?_⟩
 rw [params10] at ht
 have hm := Array.mem_of_getElem? ht
 have hall : ((Tryz.f10.params).toList.all fun t => !prog.wantsStandIn t) = true := by rw [params10]; kernel_rfl
 rw [params10] at hall
 have := List.all_eq_true.1 hall t (by simpa using hm)
 exact (Bool.not_eq_true' _).mp this
theorem card : Rows.TapeLowersCardSaid :=
 Claim7.holds_tied_plain_at .later [] _ _ _ _ said (fun _ h => by cases h) (by kernel_rfl) (fun _ h => by cases h) tapeLowers_row_tie rfl ⟨rfl, rfl⟩ (by kernel_rfl) rfl plain (by kernel_rfl)
end Go.Proofs.YtfcmhcaggdakbaaGreatDoor.tapeLowers
namespace Go.Proofs.YtfcmhcaggdakbaaGreatDoor
theorem tapeLowers_holds : Rows.TapeLowersCardSaid := tapeLowers.card
#print axioms tapeLowers_holds
end Go.Proofs.YtfcmhcaggdakbaaGreatDoor
