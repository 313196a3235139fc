/-
  TapeRight: whatever the input, the law answers true, and its arguments read as they did. Conditions: the row's own, no more.
-/
import Derived.Test.YtfcmhcaggdakbaaGreatDoorQTapeRightF
import Derived.Test.YtfcmhcaggdakbaaGreatDoorCards
import Derived.Test.YtfcmhcaggdakbaaGreatDoorTie
import Derived.Lay
import Derived.Lib.LaidTab
set_option linter.unusedVariables false
set_option linter.unusedSimpArgs false
set_option linter.unnecessarySimpa false
set_option maxHeartbeats 1000000
namespace Go.Proofs.YtfcmhcaggdakbaaGreatDoor
open Go Go.Tw Go.Lib Go.RowKit Go.ChangeShapes
theorem own : ownKnob Tryz.prog.godebug = none := by kernel_rfl
theorem laidOut : laidOutB Tryz.prog = true := by kernel_rfl
theorem u8extra : U8Extra Tryz.prog Tryz.lays260_ren := ⟨by kernel_rfl, by kernel_rfl, by kernel_rfl, by kernel_rfl, by kernel_rfl, by kernel_rfl, by kernel_rfl⟩
def listed : List (String × DataW Unit) := [("math/bits.deBruijn32tab", Rows.laid_math_bits_deBruijn32tab), ("math/bits.deBruijn64tab", Rows.laid_math_bits_deBruijn64tab), ("internal/strconv.uint64pow10", Rows.laid_internal_strconv_uint64pow10), ("unicode/utf8.acceptRanges", Rows.laid_unicode_utf8_acceptRanges), ("strconv.ErrRange", Rows.laid_strconv_ErrRange), ("strconv.ErrSyntax", Rows.laid_strconv_ErrSyntax), ("unicode/utf8.first", Rows.laid_unicode_utf8_first)]
theorem tabs_of {W : World} (hL : laidMet Tryz.prog listed W) : Tabs (World.hp W) := by
  have e1 : (Go.Pinned.utf8First : DataW Unit) = firstData := by kernel_rfl
  have e2 : (Rows.laid_unicode_utf8_acceptRanges : DataW Unit) = acceptData := by kernel_rfl
  have r1 : VarReads Tryz.prog W "unicode/utf8.first" (Go.Pinned.utf8First : DataW Unit) := laidMet.reads hL (.tail _ (.tail _ (.tail _ (.tail _ (.tail _ (.tail _ (.head _)))))))
  have r2 : VarReads Tryz.prog W "unicode/utf8.acceptRanges" (Rows.laid_unicode_utf8_acceptRanges : DataW Unit) := laidMet.reads hL (.tail _ (.tail _ (.tail _ (.head _))))
  rw [e1] at r1
  rw [e2] at r2
  obtain ⟨t1, t2⟩ := utf8Tabs_of_reads Tryz.lays260 u8extra r1 r2
  exact ⟨fun c hc => t1 c hc, fun i hi => t2 i hi⟩
theorem err_of {W : World} {n nm : String} {d : DataW Unit} {g t : Nat} {ms : Array (String × TypeId)} (h : VarReads Tryz.prog W n (.iface nm d)) (hg : Tryz.prog.globalNamed n = some g) (ht : (Tryz.prog.globals[g]?).map (·.type) = some t) (hi : Tryz.prog.underlying t = some (.interface ms)) :
    ∃ ev, (World.hp W).cell? ⟨g, 0, none⟩ = some ev ∧ (ev = .nilIface ∨ ∃ te pe, ev = .iface te pe) := by
  obtain ⟨g0, t0, cs, fuel, p, h1, h2, h3, h4⟩ := h
  obtain rfl := Option.some.inj (hg.symm.trans h1)
  obtain rfl := Option.some.inj (ht.symm.trans h2)
  obtain ⟨f1, u, v, he, _⟩ := iface_of_trod hi h4
  refine ⟨.iface u v, ?_, .inr ⟨u, v, rfl⟩⟩
  rw [hp_cell, World.var?_cell hg h3 0]
  have : cs.toList[0]? = some (.iface u v) := by rw [he]; rfl
  simpa using this
theorem errs_of {W : World} (hL : laidMet Tryz.prog listed W) : Errs (World.hp W) :=
  ⟨err_of (laidMet.reads hL (.tail _ (.tail _ (.tail _ (.tail _ (.tail _ (.head _))))))) (by kernel_rfl) (by kernel_rfl) Tryz.underlying142,
   err_of (laidMet.reads hL (.tail _ (.tail _ (.tail _ (.tail _ (.head _)))))) (by kernel_rfl) (by kernel_rfl) Tryz.underlying142⟩
noncomputable def laidWorld (os : Os) : World := World.laidAll Tryz.prog os listed
theorem laid_met (os : Os) (args : Array Value) : laidMet Tryz.prog listed ((laidWorld os).forCall (fun _ _ => 0) ⟨#[], args, []⟩).memory := laidMet_laidAll args (by kernel_rfl) (by kernel_rfl)
theorem p10_of {W : World} (hL : laidMet Tryz.prog listed W) : P10 (World.hp W) := by
  have e1 : (Rows.laid_internal_strconv_uint64pow10 : DataW Unit) = tabData .u64 pow10Tab := by kernel_rfl
  have r1 : VarReads Tryz.prog W "internal/strconv.uint64pow10" (Rows.laid_internal_strconv_uint64pow10 : DataW Unit) := laidMet.reads hL (.tail _ (.tail _ (.head _)))
  rw [e1] at r1
  obtain ⟨g0, t0, cs, fuel, p, h1, h2, h3, h4⟩ := r1
  have hg : Tryz.prog.globalNamed "internal/strconv.uint64pow10" = some 1 := by kernel_rfl
  obtain rfl := Option.some.inj (hg.symm.trans h1)
  have ht : (Tryz.prog.globals[1]?).map (·.type) = some 234 := by kernel_rfl
  obtain rfl := Option.some.inj (ht.symm.trans h2)
  have hcs := cells_of_tab Tryz.underlying234 Tryz.underlying136 (by kernel_rfl) (by kernel_rfl) h4
  unfold World.var? at h3
  rw [hg] at h3
  change (match W.heap[1]? with
    | some (.cells cs _ _) => some cs
    | _ => none) = _ at h3
  split at h3
  · rename_i c T f hb
    cases h3
    exact ⟨T, f, by show W.heap[_]? = _; rw [hb, ← hcs]⟩
  · cases h3
end Go.Proofs.YtfcmhcaggdakbaaGreatDoor
namespace Go.Proofs.YtfcmhcaggdakbaaGreatDoor.tapeRight
open Go Go.Tw Go.ChangeMaps Go.ChangeShapes Go.WideShapes Go.ChangeAt Go.RowKit
set_option maxRecDepth 100000 in
theorem contract (H : Type) (enc : TypeId × Value → H) (W : World) (base : Nat) (args : Array Value) (ds gs : List (DataW H)) (before : List MemPlace)
    (hval : ∀ (j : Nat) t v, Tryz.f14.params[j]? = some t → args[j]? = some v → Value.okWide Tryz.prog W .any base t v)
    (hW : DataW.Whole enc Tryz.prog Tryz.f14.params.toList Rows.tapeRightSpec.vars false W args.toList ds gs before) (hL : laidMet Tryz.prog Rows.tapeRightRow.laid W) (hsh : W.ShapedOpen Tryz.prog) :
    Calls Tryz.prog 14 args W fun e W' => ∃ v, e = .returned v ∧ Rows.tapeRightSpec.post enc Tryz.prog Tryz.f14 false true false false W args v W' := by
  have hL' : laidMet Tryz.prog listed W := hL
  have hT : Tabs (World.hp W) := tabs_of hL'
  have hE : Errs (World.hp W) := errs_of hL'
  have hP : P10 (World.hp W) := p10_of hL'
  have hM : Mx (World.hp W) := mx_of hsh
  have hW' := hW
  obtain ⟨p, q, hA0, hV, rfl, hfz, hnd⟩ := hW
  have hA : DataW.TrodAll enc Tryz.prog W 0 (fun _ => true) true Tryz.f14.params.toList args.toList ds p := hA0
  rw [Tryz.params14] at hA hval
  obtain ⟨rfl, rfl⟩ := trodVars_none hV
  obtain ⟨v0, vs0, d0, ds0, p0, q0, hargs, rfl, rfl, k0, r0⟩ := trodAll_cons hA
  obtain ⟨rfl, rfl, rfl⟩ := trodAll_nil r0
  obtain rfl : args = #[v0] := by cases args; simp_all
  obtain ⟨y0, a0, b0, c0, e0, n0, rfl, h0⟩ := open_Pg (hval 0 26 v0 rfl rfl) k0
  refine (calls_of_fun (vs := [.agg #[a0, b0, c0, e0]]) (TapeRight_any a0 b0 c0 e0 y0 n0 h0 hT hM hE hP)).mono fun e W' ⟨he, hb⟩ => ?_
  subst he
  exact ⟨_, rfl, post_true hW' rfl rfl rfl Tryz.underlying4 laidOut (by rw [Tryz.params14]; kernel_rfl) hb⟩
theorem reads (os : Os) {H : Type} (enc : TypeId × Value → H) : ∃ places, DataW.whole enc Tryz.prog ((laidWorld os).forCall (fun _ _ => 0) ⟨#[], #[.agg #[.slice none 0 0, .slice none 0 0, .slice none 0 0, .slice none 0 0]], []⟩).memory Tryz.f14.params.toList Rows.tapeRightSpec.vars false (#[.agg #[.slice none 0 0, .slice none 0 0, .slice none 0 0, .slice none 0 0]] : Array Value).toList 8 = some ([.agg [.nil, .nil, .nil, .nil]], [], places) :=
  ⟨[], by kernel_rfl⟩
set_option maxRecDepth 100000 in
theorem lifted (os : Os) (started : os.Started) (H : Type) (enc : TypeId × Value → H) (F : Stop.Interp) :
    ReturnsInHanded {} Tryz.checked os 14 .any ((OpenSpec.ofChange Rows.tapeRightSpec).preRow enc Tryz.prog Tryz.f14 Rows.tapeRightRow.domain false Rows.tapeRightRow.laid) (((OpenSpec.ofChange Rows.tapeRightSpec).at F).post enc Tryz.prog Tryz.f14 false true false false) := by
  obtain ⟨places, hx⟩ := reads os enc
  refine returnsInHanded_of_row (C := Tryz.checked) (s := OpenSpec.ofChange Rows.tapeRightSpec) own started (by kernel_rfl) Tryz.func14
    (witness_row_at (enc := enc) (C := Tryz.checked) false (laidWorld os) #[.agg #[.slice none 0 0, .slice none 0 0, .slice none 0 0, .slice none 0 0]] rfl (by kernel_rfl) (by kernel_rfl) (by kernel_rfl)
      (OpenSpec.preRow_of_cond 8 hx (by kernel_rfl) (fun k hk => by cases hk) (by kernel_rfl) (laid_met os _))) ?_
  intro W base args ds gs before hval hW _ _ _ hL hsh _
  exact contract H enc W base args ds gs before hval hW hL hsh
theorem named : Tryz.pinned.checked.prog.funcNamed Rows.tapeRightRow.func = some 14 := by kernel_rfl
theorem facts : joinedFacts Tryz.pinned.checked.prog 14 Tryz.f14 (OpenSpec.ofChange Rows.tapeRightSpec).bare Rows.tapeRightRow = true := by kernel_rfl
theorem inst : Tryz.f14.isInstance Tryz.pinned.checked.prog Rows.tapeRightRow.origin Rows.tapeRightRow.targs := of_decide_eq_true (by kernel_rfl)
theorem wrap : Tryz.f14.isWrapper Tryz.pinned.checked.prog Rows.tapeRightRow.wrapper Rows.tapeRightRow.mainSum := by unfold Func.isWrapper; first | (rw [if_pos (by decide +kernel)]; kernel_rfl) | (rw [if_neg (by decide +kernel)]; exact ⟨rfl, rfl⟩)
theorem said : Rows.TapeRightSaid :=
  OpenClaim.holds_of_cond 14 Tryz.f14 rfl rfl rfl rfl rfl rfl rfl ⟨rfl, rfl, rfl, rfl, rfl⟩ rfl rfl rfl rfl rfl named Tryz.func14 facts inst wrap
    (fun os started H enc _ F => by rw [OpenClaim.pre_eq_preRow]; exact lifted os started H enc F)
theorem plain (f : FuncId) (fn : Func) (hf : Tryz.pinned.checked.prog.funcNamed "talweg/talweglaw14.TapeRight" = some f) (hfn : Tryz.pinned.checked.prog.funcs[f]? = some fn) :
    true = Tryz.pinned.checked.prog.looks [] ∧ ∀ (j : Nat) t, fn.params[j]? = some t → Tryz.pinned.checked.prog.wantsStandIn t = false := by
  obtain rfl : f = 14 := Option.some.inj ((show Tryz.prog.funcNamed "talweg/talweglaw14.TapeRight" = some 14 by kernel_rfl).symm.trans hf) |>.symm
  obtain rfl : fn = Tryz.f14 := (Option.some.inj (Tryz.func14.symm.trans hfn)).symm
  refine ⟨by kernel_rfl, fun j t ht => ?_⟩
  rw [Tryz.params14] at ht
  have hm := Array.mem_of_getElem? ht
  have hall : ((Tryz.f14.params).toList.all fun t => !Tryz.prog.wantsStandIn t) = true := by rw [Tryz.params14]; kernel_rfl
  rw [Tryz.params14] at hall
  have := List.all_eq_true.1 hall t (by simpa using hm)
  exact (Bool.not_eq_true' _).mp this
theorem card : Rows.TapeRightCardSaid :=
  Claim7.holds_tied_plain_at .later [] _ _ _ _ said (fun _ h => by cases h) (by kernel_rfl) (fun _ h => by cases h) tapeRight_row_tie rfl ⟨rfl, rfl⟩ (by kernel_rfl) rfl plain (by kernel_rfl)
end Go.Proofs.YtfcmhcaggdakbaaGreatDoor.tapeRight
namespace Go.Proofs.YtfcmhcaggdakbaaGreatDoor
theorem tapeRight_holds : Rows.TapeRightCardSaid := tapeRight.card
#print axioms tapeRight_holds
end Go.Proofs.YtfcmhcaggdakbaaGreatDoor
