/-
  ScopeFront: whatever the input of bulk at most 2^20, the law answers true, and its arguments read as they did. Conditions: the row's own, no more.
-/
import Derived.Test.YtfcmhcaggdakbaaGreatDoorQScopeFrontD
import Derived.Test.YtfcmhcaggdakbaaGreatDoorCards
import Derived.Test.YtfcmhcaggdakbaaGreatDoorTie
import Derived.Lay
import Derived.Test.YtfcmhcaggdakbaaGreatDoorRows
set_option linter.unusedVariables false
set_option linter.unusedSimpArgs false
set_option linter.unnecessarySimpa false
set_option maxHeartbeats 1000000
namespace Go.Proofs.YtfcmhcaggdakbaaGreatDoor
open Go Go.Tw Go.Lib Go.RowKit Go.ChangeShapes
theorem own : ownKnob Tryz.prog.godebug = none := by kernel_rfl
theorem laidOut : laidOutB Tryz.prog = true := by kernel_rfl
theorem u8extra : U8Extra Tryz.prog Tryz.lays260_ren := ⟨by kernel_rfl, by kernel_rfl, by kernel_rfl, by kernel_rfl, by kernel_rfl, by kernel_rfl, by kernel_rfl⟩
def listed : List (String × DataW Unit) := [("math/bits.deBruijn32tab", Rows.laid_math_bits_deBruijn32tab), ("math/bits.deBruijn64tab", Rows.laid_math_bits_deBruijn64tab), ("internal/strconv.uint64pow10", Rows.laid_internal_strconv_uint64pow10), ("unicode/utf8.acceptRanges", Rows.laid_unicode_utf8_acceptRanges), ("strconv.ErrRange", Rows.laid_strconv_ErrRange), ("strconv.ErrSyntax", Rows.laid_strconv_ErrSyntax), ("unicode/utf8.first", Rows.laid_unicode_utf8_first)]
theorem tabs_of {W : World} (hL : laidMet Tryz.prog listed W) : Tabs (World.hp W) := by
  have e1 : (Go.Pinned.utf8First : DataW Unit) = firstData := by kernel_rfl
  have e2 : (Rows.laid_unicode_utf8_acceptRanges : DataW Unit) = acceptData := by kernel_rfl
  have r1 : VarReads Tryz.prog W "unicode/utf8.first" (Go.Pinned.utf8First : DataW Unit) := laidMet.reads hL (.tail _ (.tail _ (.tail _ (.tail _ (.tail _ (.tail _ (.head _)))))))
  have r2 : VarReads Tryz.prog W "unicode/utf8.acceptRanges" (Rows.laid_unicode_utf8_acceptRanges : DataW Unit) := laidMet.reads hL (.tail _ (.tail _ (.tail _ (.head _))))
  rw [e1] at r1
  rw [e2] at r2
  obtain ⟨t1, t2⟩ := utf8Tabs_of_reads Tryz.lays260 u8extra r1 r2
  exact ⟨fun c hc => t1 c hc, fun i hi => t2 i hi⟩
theorem err_of {W : World} {n nm : String} {d : DataW Unit} {g t : Nat} {ms : Array (String × TypeId)} (h : VarReads Tryz.prog W n (.iface nm d)) (hg : Tryz.prog.globalNamed n = some g) (ht : (Tryz.prog.globals[g]?).map (·.type) = some t) (hi : Tryz.prog.underlying t = some (.interface ms)) :
    ∃ ev, (World.hp W).cell? ⟨g, 0, none⟩ = some ev ∧ (ev = .nilIface ∨ ∃ te pe, ev = .iface te pe) := by
  obtain ⟨g0, t0, cs, fuel, p, h1, h2, h3, h4⟩ := h
  obtain rfl := Option.some.inj (hg.symm.trans h1)
  obtain rfl := Option.some.inj (ht.symm.trans h2)
  obtain ⟨f1, u, v, he, _⟩ := iface_of_trod hi h4
  refine ⟨.iface u v, ?_, .inr ⟨u, v, rfl⟩⟩
  rw [hp_cell, World.var?_cell hg h3 0]
  have : cs.toList[0]? = some (.iface u v) := by rw [he]; rfl
  simpa using this
theorem errs_of {W : World} (hL : laidMet Tryz.prog listed W) : Errs (World.hp W) :=
  ⟨err_of (laidMet.reads hL (.tail _ (.tail _ (.tail _ (.tail _ (.tail _ (.head _))))))) (by kernel_rfl) (by kernel_rfl) Tryz.underlying142,
   err_of (laidMet.reads hL (.tail _ (.tail _ (.tail _ (.tail _ (.head _)))))) (by kernel_rfl) (by kernel_rfl) Tryz.underlying142⟩
noncomputable def laidWorld (os : Os) : World := World.laidAll Tryz.prog os listed
theorem laid_met (os : Os) (args : Array Value) : laidMet Tryz.prog listed ((laidWorld os).forCall (fun _ _ => 0) ⟨#[], args, []⟩).memory := laidMet_laidAll args (by kernel_rfl) (by kernel_rfl)
end Go.Proofs.YtfcmhcaggdakbaaGreatDoor
namespace Go.Proofs.YtfcmhcaggdakbaaGreatDoor
open Go Go.Tw Go.RowKit Go.ChangeShapes Go.WideShapes Go.ChangeAt Go.Deep
set_option maxRecDepth 100000
theorem bulk_pos {H : Type} (d : DataW H) : 1 ≤ Rows.uptoBulk d := by
  cases d with
  | lit l => cases l <;> (unfold Rows.uptoBulk; omega)
  | _ => unfold Rows.uptoBulk; omega
theorem bulk_mem {H : Type} {d : DataW H} : ∀ {l : List (DataW H)}, d ∈ l → Rows.uptoBulk d ≤ Rows.uptoBulkAll l
  | [], h => by cases h
  | x :: l, h => by
    unfold Rows.uptoBulkAll
    rcases List.mem_cons.1 h with rfl | h
    · omega
    · have := bulk_mem h; omega
theorem bulk_len {H : Type} : ∀ (l : List (DataW H)), l.length ≤ Rows.uptoBulkAll l
  | [] => Nat.zero_le _
  | x :: l => by
    have h1 := bulk_pos x
    have h2 := bulk_len l
    unfold Rows.uptoBulkAll
    rw [List.length_cons]
    omega
def TrU {H : Type} (N : Nat) (enc : TypeId × Value → H) (P : Program) (W : World) (t : TypeId) (cs : List Value) : Prop := ∃ n x, DataW.trod enc P W 0 (fun _ => true) true n t cs = some x ∧ Rows.uptoBulk x.1 ≤ N
section
variable {N : Nat} {base : Nat} {H : Type} {enc : TypeId × Value → H} {P : Program} {W : World} {t e : TypeId} {v : Value} {cs : List Value} {d : DataW H} {ps : List MemPlace}
theorem TrU.tr (h : TrU N enc P W t cs) : Tr enc P W t cs := by
  obtain ⟨n, x, h, _⟩ := h
  exact ⟨n, x, h⟩
theorem trU_of_struct {fs : Array Field} (ht : P.underlying t = some (.struct fs)) (hval : Value.okWide P W .any base t v) (h : DataW.Trod enc P W 0 (fun _ => true) true t v d ps) (hw : Rows.uptoBulk d ≤ N) : ∃ cs : List Value, v = .agg cs.toArray ∧ TrU N enc P W t cs := by
  obtain ⟨cs, rfl, _⟩ := okWide_struct ht hval
  obtain ⟨n, h⟩ := h
  exact ⟨cs.toList, by simp, n, _, h, hw⟩
theorem trU_struct {fs : Array Field} (ht : P.underlying t = some (.struct fs)) (h : TrU N enc P W t cs) : cs.length = P.cellsOf t ∧ ∀ (i : Nat) (f : Field), fs[i]? = some f → TrU N enc P W f.type ((cs.drop f.offset).take (P.cellsOf f.type)) := by
  obtain ⟨n, x, h, hw⟩ := h
  obtain ⟨xs, m, _, rfl, hl, hx, hf⟩ := DataW.trod_struct ht h
  refine ⟨hl, fun i f hi => ?_⟩
  have h1 := hf i f hi
  have hlt : i < xs.length := by rw [hx]; exact (Array.getElem?_eq_some_iff.1 hi).1
  rw [List.getElem?_eq_getElem hlt] at h1
  refine ⟨m, _, h1, ?_⟩
  have hm : xs[i].1 ∈ xs.map (·.1) := List.mem_map_of_mem (List.getElem_mem hlt)
  have := bulk_mem hm
  unfold Rows.uptoBulk at hw
  omega
theorem trU_rows {sz : Nat} (ht : P.underlying t = some (.slice e)) (hsz : P.cellsOf e = sz) (hpos : 0 < sz) (h : TrU N enc P W t [v]) : ∃ xss : List (List Value), Slc (World.hp W) sz v xss ∧ (∀ c ∈ xss, TrU N enc P W e c) ∧ xss.length ≤ N := by
  obtain ⟨n, x, h, hw⟩ := h
  rcases open_slice ht h with ⟨h1, _⟩ | ⟨a, len, cap, m, n', D, Pl, h1, hb, hl, hc, hm, hxx, hx⟩
  · obtain rfl := (List.cons.inj h1).1
    exact ⟨[], Slc.nil _ _, (fun c hc => by cases hc), by simp⟩
  · obtain rfl := (List.cons.inj h1).1
    subst hsz
    simp only [if_true] at hm
    subst hm
    subst hxx
    unfold Rows.uptoBulk at hw
    obtain ⟨G, hG⟩ := choose_lt (α := List Value) (p := fun i cs' => W.cells? 0 (a.add (i * P.cellsOf e)) (P.cellsOf e) = some cs' ∧ DataW.trod enc P W 0 (fun _ => true) true n' e cs' = some (D i, Pl i)) hx
    have hcell : ∀ i, i < m → (G i).length = P.cellsOf e ∧ ∀ k, k < P.cellsOf e → W.cell? (a.add (i * P.cellsOf e + k)) = (G i)[k]? := fun i hi => by
      obtain ⟨h2, h3, h4⟩ := World.cells?_some (hG i hi).1
      refine ⟨h3, fun k hk => ?_⟩
      rw [← h4 k hk, add_add]
    refine ⟨(List.range len).map G, ?_, fun c hc => ?_, ?_⟩
    · have hlen : ((List.range len).map G).length = len := by simp
      have hlens : ∀ c ∈ (List.range len).map G, c.length = P.cellsOf e := fun c hc => by
        obtain ⟨i, hi, rfl⟩ := List.mem_map.1 hc
        exact (hcell i (by have := List.mem_range.1 hi; omega)).1
      by_cases h0 : m = 0
      · have hl0 : len = 0 := by omega
        subst h0
        subst hl0
        exact Slc.nilA _ _ _
      · have hsp : a.spot = none := by
          have h2 := (hcell 0 (by omega)).2 0 hpos
          have h3 : 0 < (G 0).length := by rw [(hcell 0 (by omega)).1]; exact hpos
          rw [List.getElem?_eq_getElem h3] at h2
          unfold World.cell? at h2
          split at h2
          · split at h2
            · cases h2
            · rename_i hs
              have hz : a.add (0 * P.cellsOf e + 0) = a := by rw [Nat.zero_mul]; unfold Addr.add; simp
              rw [hz] at hs
              cases hsp : a.spot with
              | none => rfl
              | some s => rw [hsp] at hs; simp at hs
          · cases h2
        obtain ⟨b, off, s⟩ := a
        change s = none at hsp
        subst hsp
        refine ⟨.inr ⟨b, off, m, by rw [hlen], by rw [hlen]; exact hl⟩, fun j c hj k u hk => ?_, hlens, by rw [hlen]; omega⟩
        rw [List.getElem?_map] at hj
        have hjl : j < len := by
          by_cases hjl : j < len
          · exact hjl
          · rw [List.getElem?_eq_none (by simp; omega)] at hj; cases hj
        rw [List.getElem?_range hjl] at hj
        cases hj
        have hkl := (List.getElem?_eq_some_iff.1 hk).1
        rw [(hcell j (by omega)).1] at hkl
        have h2 := (hcell j (by omega)).2 k hkl
        rw [hk, Go.Tw.add_none] at h2
        rw [hp_cell]
        simp only [slcB, slcO]
        rw [Nat.add_assoc]
        exact h2
    · obtain ⟨i, hi, rfl⟩ := List.mem_map.1 hc
      have hil := List.mem_range.1 hi
      refine ⟨n', _, (hG i (by omega)).2, ?_⟩
      have hm : D i ∈ (List.range len).map D := List.mem_map_of_mem hi
      have := bulk_mem hm
      dsimp only
      omega
    · have := bulk_len ((List.range len).map D)
      rw [List.length_map, List.length_range] at this
      rw [List.length_map, List.length_range]
      omega
end
section
variable {base : Nat} {H : Type} {enc : TypeId × Value → H} {W : World} {v : Value} {cs : List Value} {d : DataW H} {ps : List MemPlace}
theorem trU_wds (h : TrU 1048576 enc Tryz.prog W 33 [v]) : ∃ O, Ws (World.hp W) v O ∧ O.length ≤ 2000000 := by
  obtain ⟨xss, h1, h2, h4⟩ := trU_rows Tryz.underlying33 ce_u32 (by decide) h
  obtain ⟨zs, rfl, h3⟩ := tr_ints (sz := 1) Tryz.underlying134 h1 (fun c hc => (h2 c hc).tr)
  rw [List.length_map] at h4
  refine ⟨zs.map Int.toNat, ⟨?_, fun x hx => ?_⟩, by rw [List.length_map]; omega⟩
  · have e : wcs (zs.map Int.toNat) = zs.map (fun z => [Value.int .u32 z]) := by
      unfold wcs
      rw [List.map_map]
      refine List.map_congr_left fun z hz => ?_
      have := bounds_u32 (h3 z hz)
      show [Value.int .u32 ((z.toNat : Nat) : Int)] = _
      rw [Int.toNat_of_nonneg this.1]
    rw [e]; exact h1
  · obtain ⟨z, hz, rfl⟩ := List.mem_map.1 hx
    have := bounds_u32 (h3 z hz)
    omega
theorem trU_num (h : TrU 1048576 enc Tryz.prog W 35 cs) : ∃ s n d b c, cs = [.bool s, b, c] ∧ Ws (World.hp W) b n ∧ Ws (World.hp W) c d ∧ n.length ≤ 2000000 ∧ d.length ≤ 2000000 := by
  obtain ⟨h1, h2⟩ := trU_struct Tryz.underlying35 h
  obtain ⟨a, b, c, rfl⟩ := of3 (by rw [h1]; exact ce_rat)
  have k0 := (h2 0 _ rfl).tr
  have k1 := h2 1 _ rfl
  have k2 := h2 2 _ rfl
  change Tr enc Tryz.prog W 4 (List.take (Tryz.prog.cellsOf 4) [a, b, c]) at k0
  change TrU 1048576 enc Tryz.prog W 33 (List.take (Tryz.prog.cellsOf 33) [b, c]) at k1
  change TrU 1048576 enc Tryz.prog W 33 (List.take (Tryz.prog.cellsOf 33) [c]) at k2
  rw [ce_bool] at k0
  rw [ce_u32s] at k1 k2
  obtain ⟨s, rfl⟩ := tr_bool Tryz.underlying4 k0
  obtain ⟨n, hn, hnl⟩ := trU_wds k1
  obtain ⟨dd, hd, hdl⟩ := trU_wds k2
  exact ⟨s, n, dd, b, c, rfl, hn, hd, hnl, hdl⟩
theorem trU_node (h : TrU 1048576 enc Tryz.prog W 37 cs) : ∃ o : NodeV, cs = o.cells ∧ o.ok (World.hp W) ∧ o.c.few 2000000 := by
  obtain ⟨h1, h2⟩ := trU_struct Tryz.underlying37 h
  obtain ⟨a, b, c, d, e, f, g, i, rfl⟩ := of8 (by rw [h1]; exact ce_node)
  have k0 := (h2 0 _ rfl).tr
  have k1 := (h2 1 _ rfl).tr
  have k2 := (h2 2 _ rfl).tr
  have k3 := (h2 3 _ rfl).tr
  have k4 := (h2 4 _ rfl).tr
  have k5 := h2 5 _ rfl
  change Tr enc Tryz.prog W 3 (List.take (Tryz.prog.cellsOf 3) [a, b, c, d, e, f, g, i]) at k0
  change Tr enc Tryz.prog W 3 (List.take (Tryz.prog.cellsOf 3) [b, c, d, e, f, g, i]) at k1
  change Tr enc Tryz.prog W 3 (List.take (Tryz.prog.cellsOf 3) [c, d, e, f, g, i]) at k2
  change Tr enc Tryz.prog W 3 (List.take (Tryz.prog.cellsOf 3) [d, e, f, g, i]) at k3
  change Tr enc Tryz.prog W 9 (List.take (Tryz.prog.cellsOf 9) [e, f, g, i]) at k4
  change TrU 1048576 enc Tryz.prog W 35 (List.take (Tryz.prog.cellsOf 35) [f, g, i]) at k5
  rw [ce_int] at k0 k1 k2 k3
  rw [ce_str] at k4
  rw [ce_rat] at k5
  obtain ⟨z0, rfl, b0⟩ := tr_int Tryz.underlying3 k0
  obtain ⟨z1, rfl, b1⟩ := tr_int Tryz.underlying3 k1
  obtain ⟨z2, rfl, b2⟩ := tr_int Tryz.underlying3 k2
  obtain ⟨z3, rfl, b3⟩ := tr_int Tryz.underlying3 k3
  obtain ⟨s, rfl, _⟩ := tr_string Tryz.underlying9 k4
  obtain ⟨ng, n, dd, vb, vc, hx, hn, hd, hnl, hdl⟩ := trU_num k5
  obtain ⟨rfl, h5⟩ := List.cons.inj hx
  obtain ⟨rfl, h6⟩ := List.cons.inj h5
  obtain ⟨rfl, _⟩ := List.cons.inj h6
  exact ⟨⟨⟨z0, z1, z2, z3, s, ng, n, dd⟩, g, i⟩, rfl, ⟨hn, hd⟩, hnl, hdl⟩
theorem open_Pu (hval : Value.okWide Tryz.prog W .any base 26 v) (h : DataW.Trod enc Tryz.prog W 0 (fun _ => true) true 26 v d ps) (hw : Rows.uptoBulk d ≤ 1048576) : ∃ (p : ProgC) (vi vl vo va : Value) (ns : List NodeV), v = .agg #[vi, vl, vo, va] ∧ ProgV (World.hp W) vi vl vo va p ns ∧ ∀ o ∈ ns, o.c.few 2000000 := by
  obtain ⟨cs, rfl, hh⟩ := trU_of_struct Tryz.underlying26 hval h hw
  obtain ⟨h1, h2⟩ := trU_struct Tryz.underlying26 hh
  obtain ⟨a, b, c, e, rfl⟩ := of4 (by rw [h1]; exact ce_prog)
  have k0 := (h2 0 _ rfl).tr
  have k1 := (h2 1 _ rfl).tr
  have k2 := (h2 2 _ rfl).tr
  have k3 := h2 3 _ rfl
  change Tr enc Tryz.prog W 22 (List.take (Tryz.prog.cellsOf 22) [a, b, c, e]) at k0
  change Tr enc Tryz.prog W 23 (List.take (Tryz.prog.cellsOf 23) [b, c, e]) at k1
  change Tr enc Tryz.prog W 22 (List.take (Tryz.prog.cellsOf 22) [c, e]) at k2
  change TrU 1048576 enc Tryz.prog W 24 (List.take (Tryz.prog.cellsOf 24) [e]) at k3
  rw [ce_strs] at k0 k2
  rw [ce_lets] at k1
  rw [ce_nodes] at k3
  obtain ⟨li, gi⟩ := tr_strs k0
  obtain ⟨lo, go⟩ := tr_strs k2
  obtain ⟨xss, s1, s2⟩ := tr_rows (sz := 2) Tryz.underlying23 ce_let (by decide) k1
  obtain ⟨ls, rfl, _⟩ := rows_map (f := LetC.cells) (p := fun _ => True) fun c hc => tr_let (s2 c hc)
  obtain ⟨yss, u1, u2, _⟩ := trU_rows (sz := 8) Tryz.underlying24 ce_node (by decide) k3
  obtain ⟨ns, rfl, u3⟩ := rows_map (f := NodeV.cells) (p := fun o => o.ok (World.hp W) ∧ o.c.few 2000000) fun c hc => trU_node (u2 c hc)
  exact ⟨⟨li, ls, lo, ns.map NodeV.c⟩, a, b, c, e, ns, rfl, ⟨gi, s1, go, u1, fun o ho => (u3 o ho).1, rfl⟩, fun o ho => (u3 o ho).2⟩
end
end Go.Proofs.YtfcmhcaggdakbaaGreatDoor
namespace Go.Proofs.YtfcmhcaggdakbaaGreatDoor.scopeFront
open Go Go.Tw Go.ChangeMaps Go.ChangeShapes Go.WideShapes Go.ChangeAt Go.RowKit
set_option maxRecDepth 100000 in
theorem contract (H : Type) (enc : TypeId × Value → H) (W : World) (base : Nat) (args : Array Value) (ds gs : List (DataW H)) (before : List MemPlace)
    (hval : ∀ (j : Nat) t v, Tryz.f4.params[j]? = some t → args[j]? = some v → Value.okWide Tryz.prog W .any base t v)
    (hW : DataW.Whole enc Tryz.prog Tryz.f4.params.toList Rows.scopeFrontSpec.vars false W args.toList ds gs before) (hL : laidMet Tryz.prog Rows.scopeFrontUptoRow.laid W) (hsh : W.ShapedOpen Tryz.prog) (hB : Rows.uptoSmall H (ds ++ gs) = true) :
    Calls Tryz.prog 4 args W fun e W' => ∃ v, e = .returned v ∧ Rows.scopeFrontSpec.post enc Tryz.prog Tryz.f4 false true false false W args v W' := by
  have hL' : laidMet Tryz.prog listed W := hL
  have hT : Tabs (World.hp W) := tabs_of hL'
  have hE : Errs (World.hp W) := errs_of hL'
  have hM : Mx (World.hp W) := mx_of hsh
  have hW' := hW
  obtain ⟨p, q, hA0, hV, rfl, hfz, hnd⟩ := hW
  have hA : DataW.TrodAll enc Tryz.prog W 0 (fun _ => true) true Tryz.f4.params.toList args.toList ds p := hA0
  rw [Tryz.params4] at hA hval
  obtain ⟨rfl, rfl⟩ := trodVars_none hV
  obtain ⟨v0, vs0, d0, ds0, p0, q0, hargs, rfl, rfl, k0, r0⟩ := trodAll_cons hA
  obtain ⟨rfl, rfl, rfl⟩ := trodAll_nil r0
  obtain rfl : args = #[v0] := by cases args; simp_all
  have hB : Rows.uptoBulkAll [d0] ≤ 1048576 := of_decide_eq_true hB
  have hB0 : Rows.uptoBulk d0 ≤ 1048576 := Nat.le_trans (bulk_mem (by simp)) hB
  obtain ⟨y0, a0, b0, c0, e0, n0, rfl, h0, w0⟩ := open_Pu (hval 0 26 v0 rfl rfl) k0 hB0
  refine (calls_of_fun (vs := [.agg #[a0, b0, c0, e0]]) (ScopeFront_any a0 b0 c0 e0 y0 n0 h0 w0 hT hM hE)).mono fun e W' ⟨he, hb⟩ => ?_
  subst he
  exact ⟨_, rfl, post_true hW' rfl rfl rfl Tryz.underlying4 laidOut (by rw [Tryz.params4]; kernel_rfl) hb⟩
theorem reads (os : Os) {H : Type} (enc : TypeId × Value → H) : ∃ places, DataW.whole enc Tryz.prog ((laidWorld os).forCall (fun _ _ => 0) ⟨#[], #[.agg #[.slice none 0 0, .slice none 0 0, .slice none 0 0, .slice none 0 0]], []⟩).memory Tryz.f4.params.toList Rows.scopeFrontSpec.vars false (#[.agg #[.slice none 0 0, .slice none 0 0, .slice none 0 0, .slice none 0 0]] : Array Value).toList 8 = some ([.agg [.nil, .nil, .nil, .nil]], [], places) :=
  ⟨[], by kernel_rfl⟩
set_option maxRecDepth 100000 in
theorem lifted (os : Os) (started : os.Started) (H : Type) (enc : TypeId × Value → H) (F : Stop.Interp) :
    ReturnsInHanded {} Tryz.checked os 4 .any ((Rows.OpenSpec.upto Rows.scopeFrontSpec).preRow enc Tryz.prog Tryz.f4 Rows.scopeFrontUptoRow.domain false Rows.scopeFrontUptoRow.laid) (((Rows.OpenSpec.upto Rows.scopeFrontSpec).at F).post enc Tryz.prog Tryz.f4 false true false false) := by
  obtain ⟨places, hx⟩ := reads os enc
  refine returnsInHanded_of_row (C := Tryz.checked) (s := Rows.OpenSpec.upto Rows.scopeFrontSpec) own started (by kernel_rfl) Tryz.func4
    (witness_row_at (enc := enc) (C := Tryz.checked) false (laidWorld os) #[.agg #[.slice none 0 0, .slice none 0 0, .slice none 0 0, .slice none 0 0]] rfl (by kernel_rfl) (by kernel_rfl) (by kernel_rfl)
      (OpenSpec.preRow_of_cond 8 hx (by kernel_rfl) (fun k hk => by cases hk; kernel_rfl) (by kernel_rfl) (laid_met os _))) ?_
  intro W base args ds gs before hval hW _ hK _ hL hsh _
  exact contract H enc W base args ds gs before hval hW hL hsh (hK _ rfl)
theorem named : Tryz.pinned.checked.prog.funcNamed Rows.scopeFrontUptoRow.func = some 4 := by kernel_rfl
theorem facts : joinedFacts Tryz.pinned.checked.prog 4 Tryz.f4 (Rows.OpenSpec.upto Rows.scopeFrontSpec).bare Rows.scopeFrontUptoRow = true := by kernel_rfl
theorem inst : Tryz.f4.isInstance Tryz.pinned.checked.prog Rows.scopeFrontUptoRow.origin Rows.scopeFrontUptoRow.targs := of_decide_eq_true (by kernel_rfl)
theorem wrap : Tryz.f4.isWrapper Tryz.pinned.checked.prog Rows.scopeFrontUptoRow.wrapper Rows.scopeFrontUptoRow.mainSum := by unfold Func.isWrapper; first | (rw [if_pos (by decide +kernel)]; kernel_rfl) | (rw [if_neg (by decide +kernel)]; exact ⟨rfl, rfl⟩)
theorem said : Rows.ScopeFrontUptoSaid :=
  OpenClaim.holds_of_cond 4 Tryz.f4 rfl rfl rfl rfl rfl rfl rfl ⟨rfl, rfl, rfl, rfl, rfl⟩ rfl rfl rfl rfl rfl named Tryz.func4 facts inst wrap
    (fun os started H enc _ F => by rw [OpenClaim.pre_eq_preRow]; exact lifted os started H enc F)
theorem plain (f : FuncId) (fn : Func) (hf : Tryz.pinned.checked.prog.funcNamed "talweg/talweglaw13.ScopeFront" = some f) (hfn : Tryz.pinned.checked.prog.funcs[f]? = some fn) :
    true = Tryz.pinned.checked.prog.looks [] ∧ ∀ (j : Nat) t, fn.params[j]? = some t → Tryz.pinned.checked.prog.wantsStandIn t = false := by
  obtain rfl : f = 4 := Option.some.inj ((show Tryz.prog.funcNamed "talweg/talweglaw13.ScopeFront" = some 4 by kernel_rfl).symm.trans hf) |>.symm
  obtain rfl : fn = Tryz.f4 := (Option.some.inj (Tryz.func4.symm.trans hfn)).symm
  refine ⟨by kernel_rfl, fun j t ht => ?_⟩
  rw [Tryz.params4] at ht
  have hm := Array.mem_of_getElem? ht
  have hall : ((Tryz.f4.params).toList.all fun t => !Tryz.prog.wantsStandIn t) = true := by rw [Tryz.params4]; kernel_rfl
  rw [Tryz.params4] at hall
  have := List.all_eq_true.1 hall t (by simpa using hm)
  exact (Bool.not_eq_true' _).mp this
theorem card : Rows.ScopeFrontUptoCardSaid :=
  Claim7.holds_tied_plain_at .later [] _ _ _ _ said (fun _ h => by cases h) (by kernel_rfl) (fun _ h => by cases h) scopeFrontUpto_row_tie rfl ⟨rfl, rfl⟩ (by kernel_rfl) rfl plain (by kernel_rfl)
end Go.Proofs.YtfcmhcaggdakbaaGreatDoor.scopeFront
namespace Go.Proofs.YtfcmhcaggdakbaaGreatDoor
theorem scopeFront_holds : Rows.ScopeFrontUptoCardSaid := scopeFront.card
#print axioms scopeFront_holds
end Go.Proofs.YtfcmhcaggdakbaaGreatDoor
