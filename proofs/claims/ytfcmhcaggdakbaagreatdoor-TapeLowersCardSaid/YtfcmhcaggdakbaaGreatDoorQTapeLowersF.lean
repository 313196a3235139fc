/-
  TapeLowers, part 6: the texts LowerR, TapeS, ShowW, Show4, RefX, ShowR, Needs, Tree11, Law12, Law14, Open, Open11 as one.
-/
import Derived.Test.YtfcmhcaggdakbaaGreatDoorQTapeLowersE
import Derived.Lib.AppendIntMem
import Derived.Deep.Slices
open Go.Proofs.Tryz
set_option linter.unusedVariables false
set_option linter.unusedSimpArgs false
set_option linter.unnecessarySimpa false
set_option maxHeartbeats 1000000
namespace Go.Proofs.YtfcmhcaggdakbaaGreatDoor
open Go Go.Tw
theorem q49 (vi vl vo va : Value) (p : qv) (ns : List qd) (s : ByteArray) (pl : List Int) {I : Hp} (b n : Nat) (hp : yi I vi vl vo va p ns) (hf : ∀ o ∈ ns, o.c.few 3000)
   (hn : pl.length = n) (hn2 : n = p.all.length) (ho : qmi p) :
   Fun prog 66 [.agg #[vi,vl,vo,va],.slice (some ⟨b,0,none⟩) n n,.string s] I [arI b pl] (fun v I' B' => I = I' ∧ v = .int .i64 (plcZ p pl s) ∧ B' = [arI b pl]) := by
 have hsi := hp.si
 have hsl := hp.sl
 have hso := hp.so
 have hsa := hp.sa
 have hll : (p.lets.map LetC.cells).length = p.lets.length := List.length_map _
 unfold arI
 intro w hw
 refine j5 _ func66 rfl ntmps66 rfl ?_ hw;refine sR ?_;refine vh trivial rfl rfl rfl (fun b3 => ?_);refine oV ?_;refine nS ?_;refine oA isAgg26 sizeOf26 ?_;refine oV ?_;refine oQ call109 rfl (q4p vi vl vo va p ns s hp hf) ?_;iterate 7 refine oV ?_
 refine nU ?_;refine oV ?_;refine nT ?_;refine cC rfl (fun h1 => ?_) (fun h1 => ?_)
 ·
  have f1 := h1;try simp only [bl] at f1
  obtain ⟨k1,c,hc,k2,k3⟩ := ho.place s h1
  have hcl := (List.getElem?_eq_some_iff.1 hc).1
  have hpz : plcZ p pl s = pl.getD c.root.toNat 0 := by
    unfold plcZ
    rw [if_pos h1,List.getD_eq_getElem?_getD (l := p.lets),hc]; rfl
  refine sR ?_;refine oV ?_;refine oF 1 underlying26 sizeOf23 ?_;refine oL isAgg23 ?_;refine oV ?_;refine vk trivial rfl underlying23 sizeOf39 rfl (hsl) rfl (by omega) ?_;refine oF 1 underlying39 sizeOf3 ?_;refine q7 trivial rfl isAgg3 rfl (qcw hsl hc 1 _ rfl) ?_;refine y8 trivial rfl underlying52 sizeOf3 rfl rfl (by omega) ?_;refine qcd trivial rfl isAgg3 rfl (by repeat constructor) ((by rw [show 0 + c.root.toNat * 1 = c.root.toNat by omega]; exact qfd (by omega))) ?_;refine oV ?_;refine nF ?_;refine ret1 rfl rfl ?_;exact fun w' hw' => ⟨I,[.box b (.cells (ivs pl).toArray 3 (0,0))],hw'.sort (by repeat constructor),Ext.refl _ _,rfl,by rw [hpz],rfl⟩
 have f1 := h1;try simp only [bl] at f1
 have hpz : plcZ p pl s = (yr p s).2.1 := by unfold plcZ; rw [h1]; rfl
 refine kS ?_;iterate 2 refine oV ?_
 refine nE ?_;refine ret1 rfl rfl ?_;exact fun w' hw' => ⟨I,[.box b (.cells (ivs pl).toArray 3 (0,0))],hw'.sort (by repeat constructor),Ext.refl _ _,rfl,by rw [hpz]; rfl,rfl⟩
theorem q5a (vi vl vo va : Value) (p : qv) (ns : List qd) {I : Hp} (hp : yi I vi vl vo va p ns) (hf : ∀ o ∈ ns, o.c.few 3000) :
   Fun prog 31 [.agg #[vi,vl,vo,va]] I [] (fun v I' _ => LowV (lowZ p) v I') := by
 have hsi := hp.si
 have hsl := hp.sl
 have hso := hp.so
 have hsa := hp.sa
 have hla := zl ns
 have hlo := jq p.outs
 have hli := jq p.ins
 have hal : p.all.length = ns.length := by rw [← hp.eq,List.length_map]
 intro w hw
 refine qn _ func31 rfl ntmps31 rfl ?_ hw;refine sR ?_;refine vh trivial rfl rfl rfl (fun b1 => ?_);refine qq trivial rfl zeroValue56 rfl (fun b2 => ?_);iterate 2 refine oV ?_
 refine nS ?_;refine oA isAgg26 sizeOf26 ?_;refine oQ call65 rfl (qtc vi vl vo va p ns hp hf) ?_;iterate 5 refine oV ?_
 refine nU ?_;iterate 2 refine oV ?_
 refine nT ?_;refine cC rfl (fun h1 => ?_) (fun h1 => ?_)
 ·
  have f1 := h1;try simp only [bl] at f1
  have hz : lowZ p = ⟨noT,(vv p).name,(vv p).err⟩ := if_pos f1
  refine sR ?_;refine qw trivial rfl (qdb) rfl .nil ?_;iterate 2 refine oV ?_
  refine oS sizeOf56 ?_;iterate 2 refine oV ?_
  refine nF ?_;refine retR rfl (.agg isAgg56 sizeOf56 rfl (by repeat constructor) rfl (.tmp rfl (.tmp rfl .nil))) ?_;refine leaf (Ext.refl _ _) (List.nil_sublist _) ?_
  rw [hz]
  exact ⟨N0,N0,[],rfl,⟨Slc.nil _ _,fun o ho => (by cases ho),rfl,Slc.nil _ _⟩,fun o ho => by cases ho⟩
 have f1 := h1;try simp only [bl] at f1
 have hz : lowZ p = if (v7 (lowT p)).isSome = true then ⟨lowT p,⟨#[]⟩,0⟩ else ⟨noT,⟨#[]⟩,4⟩ := if_neg (fun h => h f1)
 have hin := qtm f1
 obtain ⟨q1,q2,q3⟩ := hin.few
 refine kS ?_;refine oF 0 underlying26 sizeOf22 ?_;refine oL isAgg22 ?_;refine qu trivial rfl underlying22 rfl (hsi) ?_;refine qw trivial rfl (qdb) rfl (.cons rfl rfl rfl (by repeat constructor) .nil) ?_;refine qq trivial rfl zeroValue56 rfl (fun b7 => ?_);refine oS sizeOf56 ?_;refine nS ?_;refine oF 3 underlying26 sizeOf24 ?_;refine oL isAgg24 ?_;refine qu trivial rfl underlying24 rfl (hsa) ?_;refine qce trivial rfl underlying52 qom rfl rfl (by omega) (by omega) (by (unfold maxLen; omega)) (fun b31 => ?_);refine oV ?_;refine oN (tC (cS (cS ?_)))
 rw [Int.toNat_natCast,qto,hla,hli]
 have hplace : ∀ (s : ByteArray) (pl : List Int), pl.length = ns.length → Fun prog 66 [.agg #[vi, vl, vo, va], .slice (some ⟨b31, 0, none⟩) ns.length ns.length, .string s] I [arI b31 pl] (fun v I' B' => I = I' ∧ v = .int .i64 (plcZ p pl s) ∧ B' = [arI b31 pl]) :=
   fun s pl hpl => q49 vi vl vo va p ns s pl b31 ns.length hp hf hpl hal.symm hin
 unfold arI at hplace
 refine cR ?_;refine oV ?_;refine oN (tC (cB ?_));refine qt (ι := Nat × List Int × List OpV × Value) [1,2,7,8] (.cons rfl (.cons rfl (.cons rfl (.cons rfl .nil)))) (fun x => ns.length - x.1) (fun x E0 => (9,.int .i64 (x.1 : Nat)) :: E0) (fun x => St w [] I [.row x.2.2.2 69 7 x.2.2.1.length (ocs x.2.2.1).flatten,arI b31 x.2.1,.box b7 (.cells #[.int .i64 (p.ins.length : Nat),x.2.2.2,.slice none 0 0] 56 (0,0)),.box b2 (.cells #[.int .i64 0,.slice none 0 0,.slice none 0 0] 56 (0,0)),.box b1 (.cells #[vi,vl,vo,va] 26 (0,0))]) (fun x => x.1 ≤ ns.length ∧ x.2.1.length = ns.length ∧ x.2.2.1.length ≤ x.1 ∧ (∀ o ∈ x.2.2.1,o.ok I ∧ OpC.few 3000 o.c) ∧ qbs p = j4 p (p.all.drop x.1) x.1 x.2.1 (x.2.2.1.map OpV.c)) ((0,List.replicate ns.length 0,[],.slice none 0 0)) (sC rfl (sC rfl (sC rfl (sC rfl (sC rfl sN))))) (fun _ h => (h.nilRow 69 7).sort (by repeat constructor)) (⟨Nat.zero_le _,List.length_replicate,Nat.le_refl _,fun o ho => (by cases ho),by show qbs p = j4 p p.all 0 (List.replicate ns.length 0) []; rw [← hal]; rfl⟩) ?_;rintro ⟨i,pl,os,u⟩ ⟨hi,hpl,hol,hok,hgo⟩
 try dsimp only
 simp only at hi hpl hol hok hgo; have hpll := qtn pl; unfold arI
 refine cS (sR ?_);refine oV ?_;refine oF 3 underlying26 sizeOf24 ?_;refine oL isAgg24 ?_;refine qu trivial rfl underlying24 rfl (hsa) ?_;refine oV ?_;refine nT ?_;refine cC rfl (fun h2 => ?_) (fun h2 => ?_)
 ·
  have f2 := h2;try simp only [bl] at f2
  obtain ⟨o,ho⟩ : ∃ o,ns[i]? = some o := ⟨ns[i]'(by omega),List.getElem?_eq_getElem (by omega)⟩
  have hom := List.mem_of_getElem? ho
  have hoc : p.all[i]? = some o.c := by rw [← hp.eq,List.getElem?_map,ho]; rfl
  have hw1 : Ws I o.vn o.c.n := (hp.ok o hom).1
  have hw2 : Ws I o.vd o.c.d := (hp.ok o hom).2
  rw [qtl hoc] at hgo
  have hknd := hin.kind o.c (List.mem_of_getElem? hoc)
  have hlow := hin.low i o.c hoc
  refine cK (tC (cS (cB (sR ?_))));refine oF 3 underlying26 sizeOf24 ?_;refine oL isAgg24 ?_;refine oV ?_;refine vk trivial rfl underlying24 sizeOf37 rfl (hsa) rfl (by omega) ?_;refine jz trivial rfl isAgg37 sizeOf37 rfl rfl (qav hsa ho) ?_;refine qq trivial rfl zeroValue37 rfl (fun b10 => ?_);refine oS sizeOf37 ?_;refine nU ?_;refine oF 0 underlying37 sizeOf3 ?_;refine oL isAgg3 ?_;refine oV ?_;refine nT ?_;refine cC rfl (fun h3 => ?_) (fun h3 => ?_)
  ·
   have f3 := h3;try simp only [bl] at f3
   rw [if_pos f3] at hgo
   refine sR ?_;iterate 2 refine oV ?_
   refine oA isAgg26 sizeOf26 ?_;refine oV ?_;refine oF 4 underlying37 sizeOf9 ?_;refine oL isAgg9 ?_;refine oC trivial rfl call66 rfl (hplace o.c.name pl hpl) (by repeat constructor) ?_;rintro _ _ _ hxq ⟨rfl,rfl,rfl⟩;refine y8 trivial rfl underlying52 sizeOf3 rfl rfl (by omega) ?_;refine yn trivial rfl rfl rfl sizeOf3 rfl (by repeat constructor) (by rw [hpll]; omega) ?_
   rw [show 0 + ((i : Nat) : Int).toNat * 1 = i by omega,qim]
   refine oN (tC (qp (qc (qo rfl (tC (cR ?_))))));refine oV ?_
   (refine qh trivial rfl rfl rfl ?_ ?_; (omega))
   refine oV ?_;refine oN ?_
   (exact ql (i + 1,pl.set i (plcZ p pl o.c.name),os,u) (sC rfl (sC rfl (sC rfl (sC rfl (sC rfl sN))))) (fun _ h => h.sort (by repeat constructor)) (by show ns.length - (i + 1) < ns.length - i; omega) ⟨by show i + 1 ≤ _; omega,by rw [List.length_set]; exact hpl,by show os.length ≤ i + 1; omega,hok,hgo⟩)
  have f3 := h3;try simp only [bl] at f3
  rw [if_neg f3,List.length_map] at hgo
  refine kS ?_;iterate 2 refine oV ?_
  refine oF 0 underlying56 sizeOf3 ?_;refine oL isAgg3 ?_;refine oF 1 underlying56 sizeOf54 ?_;refine oL isAgg54 ?_;refine yw trivial rfl underlying54 rfl (by repeat constructor) ?_
  (refine qh trivial rfl rfl rfl ?_ ?_; (omega))
  refine y8 trivial rfl underlying52 sizeOf3 rfl rfl (by omega) ?_;refine yn trivial rfl rfl rfl sizeOf3 rfl (by repeat constructor) (by rw [hpll]; omega) ?_
  rw [show 0 + ((i : Nat) : Int).toNat * 1 = i by omega,qim]
  refine oN (tC (cS ?_))
  obtain ⟨pl2,hpl2⟩ : ∃ pl2,pl2 = pl.set i ((p.ins.length : Int) + os.length) := ⟨_,rfl⟩
  have hpl2l : pl2.length = ns.length := by rw [hpl2,List.length_set]; exact hpl
  rw [← hpl2]
  rw [← hpl2] at hgo
  refine cR ?_;refine oF 0 underlying37 sizeOf3 ?_;refine oL isAgg3 ?_;refine oF 5 underlying37 sizeOf35 ?_;refine oA isAgg35 sizeOf35 ?_;refine oF 3 underlying37 sizeOf3 ?_;refine oL isAgg3 ?_;refine qw trivial rfl (qg9) rfl (.cons rfl rfl rfl (by repeat constructor) (.cons rfl rfl rfl (by repeat constructor) (.cons rfl rfl rfl (by repeat constructor) .nil))) ?_;refine qq trivial rfl zeroValue69 rfl (fun b11 => ?_);refine oS sizeOf69 ?_;refine nT ?_;refine zh (ι := Int) [1,2,7,8,9,10,11] (.cons rfl (.cons rfl (.cons rfl (.cons rfl (.cons rfl (.cons rfl (.cons rfl .nil))))))) (fun z E0 => E0) (fun z => St w [] I [.box b11 (.cells [.int .i64 o.c.kind,.int .i64 z,.int .i64 0,.int .i64 o.c.e,.bool o.c.neg,o.vn,o.vd].toArray 69 (0,0)),.box b10 (.cells o.cells.toArray 37 (0,0)),.row u 69 7 os.length (ocs os).flatten,.box b31 (.cells (ivs pl2).toArray 3 (0,0)),.box b7 (.cells #[.int .i64 (p.ins.length : Nat),u,.slice none 0 0] 56 (0,0)),.box b2 (.cells #[.int .i64 0,.slice none 0 0,.slice none 0 0] 56 (0,0)),.box b1 (.cells #[vi,vl,vo,va] 26 (0,0))]) (fun z => z = if 2 ≤ o.c.kind then pl2.getD o.c.a.toNat 0 else 0) ?_ ?_
  ·
   refine sR ?_;refine oF 0 underlying37 sizeOf3 ?_;refine oL isAgg3 ?_;refine oV ?_;refine nT ?_;refine cC rfl (fun h4 => ?_) (fun h4 => ?_)
   ·
    have f4 := h4;try simp only [bl] at f4
    obtain ⟨a1,a2,_⟩ := hlow (by omega)
    refine cR ?_;refine oV ?_;refine oF 1 underlying37 sizeOf3 ?_;refine oL isAgg3 ?_;refine y8 trivial rfl underlying52 sizeOf3 rfl rfl (by omega) ?_;refine qcd trivial rfl isAgg3 rfl (by repeat constructor) ((by rw [show 0 + o.c.a.toNat * 1 = o.c.a.toNat by omega]; exact qfd (by omega))) ?_;refine oF 1 underlying69 sizeOf3 ?_;refine oS sizeOf3 ?_;refine oN ?_
    (exact meet (pl2.getD o.c.a.toNat 0) (sC rfl (sC rfl (sC rfl (sC rfl (sC rfl (sC rfl (sC rfl sN))))))) (fun _ h => h.sort (by repeat constructor)) (by show _ = if 2 ≤ o.c.kind then _ else _; rw [if_pos (by omega)]))
   have f4 := h4;try simp only [bl] at f4
   refine cK ?_
   (exact meet 0 (sC rfl (sC rfl (sC rfl (sC rfl (sC rfl (sC rfl (sC rfl sN))))))) (fun _ h => h.sort (by repeat constructor)) (by show _ = if 2 ≤ o.c.kind then _ else _; rw [if_neg (by omega)]))
  rintro zA hzA
  try dsimp only
  refine zh (ι := Int) [1,2,7,8,9,11] (.cons rfl (.cons rfl (.cons rfl (.cons rfl (.cons rfl (.cons rfl .nil)))))) (fun z E0 => E0) (fun z => St w [] I [.box b11 (.cells [.int .i64 o.c.kind,.int .i64 zA,.int .i64 z,.int .i64 o.c.e,.bool o.c.neg,o.vn,o.vd].toArray 69 (0,0)),.row u 69 7 os.length (ocs os).flatten,.box b31 (.cells (ivs pl2).toArray 3 (0,0)),.box b7 (.cells #[.int .i64 (p.ins.length : Nat),u,.slice none 0 0] 56 (0,0)),.box b2 (.cells #[.int .i64 0,.slice none 0 0,.slice none 0 0] 56 (0,0)),.box b1 (.cells #[vi,vl,vo,va] 26 (0,0))]) (fun z => z = if 2 ≤ o.c.kind ∧ o.c.kind ≤ 5 then pl2.getD o.c.b.toNat 0 else 0) ?_ ?_
  ·
   refine sR ?_;refine oF 0 underlying37 sizeOf3 ?_;refine oL isAgg3 ?_;refine oV ?_;refine' oY (fun hb83 => ?_) ?_;rotate_left
   ·
    have fb83 := hb83
    try simp only [bl] at fb83
    refine gF hb83 0 underlying37 sizeOf3 ?_;refine gL hb83 isAgg3 ?_;refine gV hb83 ?_;refine oN ?_;exact qa rfl
   refine nT ?_;refine cC rfl (fun h5 => ?_) (fun h5 => ?_)
   ·
    have f5 := h5;try simp only [bl] at f5
    obtain ⟨a1,a2,a3⟩ := hlow (by omega)
    obtain ⟨a4,a5⟩ := a3 (by omega)
    refine cR ?_;refine oV ?_;refine oF 2 underlying37 sizeOf3 ?_;refine oL isAgg3 ?_;refine y8 trivial rfl underlying52 sizeOf3 rfl rfl (by omega) ?_;refine qcd trivial rfl isAgg3 rfl (by repeat constructor) ((by rw [show 0 + o.c.b.toNat * 1 = o.c.b.toNat by omega]; exact qfd (by omega))) ?_;refine oF 2 underlying69 sizeOf3 ?_;refine oS sizeOf3 ?_;refine oN ?_
    (exact meet (pl2.getD o.c.b.toNat 0) (sC rfl (sC rfl (sC rfl (sC rfl (sC rfl (sC rfl sN)))))) (fun _ h => h.sort (by repeat constructor)) (by show _ = if 2 ≤ o.c.kind ∧ o.c.kind ≤ 5 then _ else _; rw [if_pos (by omega)]))
   have f5 := h5;try simp only [bl] at f5
   refine cK ?_
   (exact meet 0 (sC rfl (sC rfl (sC rfl (sC rfl (sC rfl (sC rfl sN)))))) (fun _ h => h.sort (by repeat constructor)) (by show _ = if 2 ≤ o.c.kind ∧ o.c.kind ≤ 5 then _ else _; rw [if_neg (by omega)]))
  rintro zB hzB
  try dsimp only
  subst hzA hzB hpl2
  refine cR ?_;refine oF 1 underlying56 sizeOf54 ?_;refine oL isAgg54 ?_;refine oA isAgg69 sizeOf69 ?_;refine oB underlying54 sizeOf69 zeroValue69 fun b97 => ?_;refine qfm trivial rfl underlying54 (qol) (by decide) rfl rfl (fun v' => (by repeat constructor)) (by repeat constructor) rfl (by exact qty hw1 hw2) (by (unfold maxLen; omega)) (by omega) (fun v98 => ?_);refine oF 1 underlying56 sizeOf54 ?_;refine j6 (u := v98) (by repeat constructor) (fun hcv => ?_);refine yn trivial rfl rfl (hcv).1 sizeOf54 (hcv).2 (by repeat constructor) (by exact Nat.le_of_ble_eq_true rfl) ?_;refine oN (qg (tC (cR ?_)));refine oV ?_
  (refine qh trivial rfl rfl rfl ?_ ?_; (omega))
  refine oV ?_;refine oN ?_
  (exact ql (i + 1, pl.set i ((p.ins.length : Int) + os.length), os ++ [⟨opL o.c (pl.set i ((p.ins.length : Int) + os.length)), o.vn, o.vd⟩], v98) (sC rfl (sC rfl (sC rfl (sC rfl (sC rfl sN))))) (fun _ h => by rw [← qtx, List.length_append]; exact h.sort (by repeat constructor)) (by show ns.length - (i + 1) < ns.length - i; omega) ⟨by show i + 1 ≤ _; omega, by rw [List.length_set]; exact hpl, by simp only [List.length_append, List.length_cons, List.length_nil]; omega, fun x hx => by
     rcases List.mem_append.1 hx with hx | hx
     · exact hok x hx
     · rw [List.mem_singleton.1 hx]; exact ⟨⟨hw1,hw2⟩,hf o hom⟩,by rw [List.map_append]; exact hgo⟩)
 have f2 := h2;try simp only [bl] at f2
 have hgo2 : qbs p = (pl,os.map OpV.c) := by
   rw [hgo,List.drop_of_length_le (by omega)]; rfl
 have hlt : lowT p = ⟨p.ins.length,os.map OpV.c,p.outs.map (plcZ p pl)⟩ := by unfold lowT; rw [hgo2]
 have hosl : os.length ≤ 400 := by omega
 refine qp (qc (qc (qo rfl (tC (cS (sR ?_))))));refine oV ?_;refine oN (tC (cB ?_));refine qt (ι := Nat × Value) [1,2,7,8] (.cons rfl (.cons rfl (.cons rfl (.cons rfl .nil)))) (fun x => p.outs.length - x.1) (fun x E0 => (12,.int .i64 (x.1 : Nat)) :: E0) (fun x => St w [] I [.row x.2 3 1 x.1 (ics ((p.outs.take x.1).map (plcZ p pl))).flatten,.row u 69 7 os.length (ocs os).flatten,.box b31 (.cells (ivs pl).toArray 3 (0,0)),.box b7 (.cells #[.int .i64 (p.ins.length : Nat),u,x.2] 56 (0,0)),.box b2 (.cells #[.int .i64 0,.slice none 0 0,.slice none 0 0] 56 (0,0)),.box b1 (.cells #[vi,vl,vo,va] 26 (0,0))]) (fun x => x.1 ≤ p.outs.length) ((0,.slice none 0 0)) (sC rfl (sC rfl (sC rfl (sC rfl (sC rfl sN))))) (fun _ h => (h.nilRow 3 1).sort (by repeat constructor)) (Nat.zero_le _) ?_;rintro ⟨j,uu⟩ hj
 try dsimp only
 simp only at hj
 refine cS (sR ?_);refine oV ?_;refine oF 2 underlying26 sizeOf22 ?_;refine oL isAgg22 ?_;refine qu trivial rfl underlying22 rfl (hso) ?_;refine oV ?_;refine nT ?_;refine cC rfl (fun h6 => ?_) (fun h6 => ?_)
 ·
  have f6 := h6;try simp only [bl] at f6
  obtain ⟨s,hs⟩ : ∃ s,p.outs[j]? = some s := ⟨p.outs[j]'(by omega),List.getElem?_eq_getElem (by omega)⟩
  refine cK (tC (cS (cB ?_)));refine zu (m := 14) [.box b1 _] (by repeat constructor) (by kernel_rfl) rfl ?_;refine qT (i := 0) (qB 14 1) (Hp.Le.refl _) rfl rfl (oF 2 underlying56 sizeOf52 qF) ?_;refine qT (i := 2) (qB 14 5) (Hp.Le.refl _) rfl rfl (oA isAgg26 sizeOf26 qF) ?_;refine qT (i := 3) (qB 14 13) (Hp.Le.refl _) rfl rfl (oV qF) ?_;refine qT (i := 4) (qB 14 29) (Hp.Le.refl _) rfl rfl (oF 2 underlying26 sizeOf22 qF) ?_;refine qT (i := 5) (qB 14 61) (Hp.Le.refl _) rfl rfl (oL isAgg22 qF) ?_;refine qT (i := 6) (qB 14 125) (Hp.Le.refl _) rfl rfl (oV qF) ?_;refine qT (i := 7) (qB 14 253) (Hp.Le.refl _) rfl rfl (vk trivial rfl underlying22 sizeOf9 rfl (hso) rfl (by omega) qF) ?_;refine qT (i := 8) (qB 14 509) (Hp.Le.refl _) rfl rfl (q7 trivial rfl isAgg9 rfl (qau hso hs) qF) ?_;refine h_go [1,9] (by kernel_rfl) rfl (TWHs.cons ?_ (TWHs.cons ?_ TWHs.nil))
  ·
   refine qP (qB 14 511) rfl ?_;refine oL isAgg52 ?_;refine qM (Hp.Le.refl _) ?_;refine qO (i := 9) (qB 14 1023) rfl ?_;refine oC trivial rfl call66 rfl (hplace s pl hpl) (by repeat constructor) ?_;rintro _ _ _ hxq ⟨rfl,rfl,rfl⟩;refine qM (hxq.le) ?_;refine qO (i := 10) (qB 14 2047) rfl ?_;refine oB underlying52 sizeOf3 zeroValue3 fun b117 => ?_;refine qM (hxq.le) ?_;refine qO (i := 11) (qB 14 4095) rfl ?_;refine oD underlying52 zd fun v118 => ?_;refine qM (hxq.le) ?_;refine qT (i := 12) (qB 14 8191) (hxq.le) rfl rfl (oF 2 underlying56 sizeOf52 qF) ?_;refine qO (i := 13) (qB 14 16383) rfl ?_;refine j6 (u := v118) (by repeat constructor) (fun hcv => ?_);refine yn trivial rfl rfl (hcv).1 sizeOf52 (hcv).2 (by repeat constructor) (by exact Nat.le_of_ble_eq_true rfl) ?_;refine qM (hxq.le) ?_;refine jc (by kernel_rfl) ?_;refine qg (tC (cR ?_));refine oV ?_
   (refine qh trivial rfl rfl rfl ?_ ?_; (omega))
   refine oV ?_;refine oN ?_;exact ql (j + 1,v118) (sC rfl (sC rfl (sC rfl (sC rfl (sC rfl sN))))) (fun _ h => by rw [List.take_add_one,hs,Option.toList_some,List.map_append,List.map_cons,List.map_nil,← qfe]; exact h.sort (by repeat constructor)) (by show p.outs.length - (j + 1) < p.outs.length - j; omega) (by show j + 1 ≤ _; omega)
  refine qP (qB 14 1021) rfl ?_;refine oC trivial rfl call66 rfl (hplace s pl hpl) (by repeat constructor) ?_;rintro _ _ _ hxq ⟨rfl,rfl,rfl⟩;refine qM (hxq.le) ?_;refine h_go [1,10] (by kernel_rfl) rfl (TWHs.cons ?_ (TWHs.cons ?_ TWHs.nil))
  ·
   refine qP (qB 14 1023) rfl ?_;refine oL isAgg52 ?_;refine qM (hxq.le) ?_;refine qO (i := 10) (qB 14 2047) rfl ?_;refine oB underlying52 sizeOf3 zeroValue3 fun b117 => ?_;refine qM (hxq.le) ?_;refine qO (i := 11) (qB 14 4095) rfl ?_;refine oD underlying52 zd fun v118 => ?_;refine qM (hxq.le) ?_;refine qT (i := 12) (qB 14 8191) (hxq.le) rfl rfl (oF 2 underlying56 sizeOf52 qF) ?_;refine qO (i := 13) (qB 14 16383) rfl ?_;refine j6 (u := v118) (by repeat constructor) (fun hcv => ?_);refine yn trivial rfl rfl (hcv).1 sizeOf52 (hcv).2 (by repeat constructor) (by exact Nat.le_of_ble_eq_true rfl) ?_;refine qM (hxq.le) ?_;refine jc (by kernel_rfl) ?_;refine qg (tC (cR ?_));refine oV ?_
   (refine qh trivial rfl rfl rfl ?_ ?_; (omega))
   refine oV ?_;refine oN ?_;exact ql (j + 1,v118) (sC rfl (sC rfl (sC rfl (sC rfl (sC rfl sN))))) (fun _ h => by rw [List.take_add_one,hs,Option.toList_some,List.map_append,List.map_cons,List.map_nil,← qfe]; exact h.sort (by repeat constructor)) (by show p.outs.length - (j + 1) < p.outs.length - j; omega) (by show j + 1 ≤ _; omega)
  refine qP (qB 14 2045) rfl ?_;refine oB underlying52 sizeOf3 zeroValue3 fun b117 => ?_;refine qM (hxq.le) ?_;refine qO (i := 1) (qB 14 2047) rfl ?_;refine oL isAgg52 ?_;refine qM (hxq.le) ?_;refine qO (i := 11) (qB 14 4095) rfl ?_;refine oD underlying52 zd fun v118 => ?_;refine qM (hxq.le) ?_;refine qT (i := 12) (qB 14 8191) (hxq.le) rfl rfl (oF 2 underlying56 sizeOf52 qF) ?_;refine qO (i := 13) (qB 14 16383) rfl ?_;refine j6 (u := v118) (by repeat constructor) (fun hcv => ?_);refine yn trivial rfl rfl (hcv).1 sizeOf52 (hcv).2 (by repeat constructor) (by exact Nat.le_of_ble_eq_true rfl) ?_;refine qM (hxq.le) ?_;refine jc (by kernel_rfl) ?_;refine qg (tC (cR ?_));refine oV ?_
  (refine qh trivial rfl rfl rfl ?_ ?_; (omega))
  refine oV ?_;refine oN ?_;exact ql (j + 1,v118) (sC rfl (sC rfl (sC rfl (sC rfl (sC rfl sN))))) (fun _ h => by rw [List.take_add_one,hs,Option.toList_some,List.map_append,List.map_cons,List.map_nil,← qfe]; exact h.sort (by repeat constructor)) (by show p.outs.length - (j + 1) < p.outs.length - j; omega) (by show j + 1 ≤ _; omega)
 have f6 := h6;try simp only [bl] at f6
 have hje : j = p.outs.length := by omega
 subst hje
 rw [List.take_length]
 refine qp (qc (qc (qo rfl (tC (cS ?_)))));refine qbj (u := u) (xss := ocs os) (by repeat constructor) (qtv os) (qtw os) (by unfold maxLen; omega) (fun I3 hx3 hs3 => ?_);refine qbj (u := uu) (xss := ics (p.outs.map (plcZ p pl))) (by repeat constructor) (by rw [qb3,List.length_map]) (qt0 _) (by unfold maxLen; omega) (fun I4 hx4 hs4 => ?_)
 have htv : jp I4 u uu (lowT p) os := by
   rw [hlt]
   exact ⟨hs3.le hx4.le,fun o ho => (hok o ho).1.le (hx3.le.trans hx4.le),rfl,hs4⟩
 have hfw : ∀ o ∈ (lowT p).ops,OpC.few 3000 o := by
   rw [hlt]
   intro o ho
   obtain ⟨x,hx,rfl⟩ := List.mem_map.1 ho
   exact (hok x hx).2
 have hright := q41 (lowT p) u uu os htv hfw
 have hti : (lowT p).ins = (p.ins.length : Nat) := rfl
 rw [hti] at hright
 refine cR ?_;refine oA isAgg56 sizeOf56 ?_;refine oQ call35 rfl hright ?_;refine oV ?_;refine nU ?_;iterate 2 refine oV ?_
 refine nT ?_;refine cC rfl (fun h7 => ?_) (fun h7 => ?_)
 ·
  have f7 := h7;try simp only [bl] at f7
  refine sR ?_;refine qw trivial rfl (qdb) rfl .nil ?_;refine oS sizeOf56 ?_;iterate 2 refine oV ?_
  refine nF ?_;refine retR rfl (.agg isAgg56 sizeOf56 rfl (by repeat constructor) rfl (.tmp rfl (.tmp rfl .nil))) ?_;refine leaf (hx3.trans hx4 (Nat.le_refl _)) (List.nil_sublist _) ?_
  rw [hz,if_neg (by simpa using h7)]
  exact ⟨N0,N0,[],rfl,⟨Slc.nil _ _,fun o ho => (by cases ho),rfl,Slc.nil _ _⟩,fun o ho => by cases ho⟩
 have f7 := h7;try simp only [bl] at f7
 refine kS ?_;refine oA isAgg56 sizeOf56 ?_;refine oS sizeOf56 ?_;iterate 2 refine oV ?_
 refine nE ?_;refine retR rfl (.agg isAgg56 sizeOf56 rfl (by repeat constructor) rfl (.tmp rfl (.tmp rfl .nil))) ?_;refine leaf (hx3.trans hx4 (Nat.le_refl _)) (List.nil_sublist _) ?_
 rw [hz,if_pos (by simpa using h7)]
 exact ⟨u,uu,os,rfl,htv,hfw⟩
theorem qt5 (va ua vb ub : Value) (t u : jw) (os ps : List OpV) {I : Hp} (ht : jp I va ua t os) (hu : jp I vb ub u ps) :
   Fun prog 32 [.agg #[.int .i64 t.ins,va,ua],.agg #[.int .i64 u.ins,vb,ub]] I [] (fun v _ _ => v = .bool (eqB t u)) := by
 have hso := ht.so
 have hsu := ht.su
 have gso := hu.so
 have gsu := hu.su
 have hol : (os.map OpV.cells).length = os.length := List.length_map _
 have gol : (ps.map OpV.cells).length = ps.length := List.length_map _
 have hul := qb3 t.outs
 have gul := qb3 u.outs
 have tol : t.ops.length = os.length := by rw [← ht.eq,List.length_map]
 have uol : u.ops.length = ps.length := by rw [← hu.eq,List.length_map]
 have hmx := hso.most
 rw [hol] at hmx
 unfold maxLen at hmx
 have hmy := hsu.most
 rw [hul] at hmy
 unfold maxLen at hmy
 intro w hw
 refine qz _ func32 rfl ntmps32 rfl ?_ hw;refine sR ?_;refine vh trivial rfl rfl rfl (fun b2 => ?_);refine vh trivial rfl rfl rfl (fun b3 => ?_);refine oV ?_;refine nU ?_;refine oF 0 underlying56 sizeOf3 ?_;refine oL isAgg3 ?_;refine oF 0 underlying56 sizeOf3 ?_;refine oL isAgg3 ?_;refine oV ?_;refine' oZ (fun hb15 => ?_) ?_;rotate_left
 ·
  have fb15 := hb15
  try simp only [bl] at fb15
  refine gF hb15 1 underlying56 sizeOf54 ?_;refine gL hb15 isAgg54 ?_;refine qu (wS rfl rfl hb15) rfl underlying54 rfl (hso) ?_;refine gF hb15 1 underlying56 sizeOf54 ?_;refine gL hb15 isAgg54 ?_;refine qu (wS rfl rfl hb15) rfl underlying54 rfl (gso) ?_;refine gV hb15 ?_;refine oN ?_;exact qa rfl
 refine' oZ (fun hb24 => ?_) ?_;rotate_left
 ·
  have fb24 := hb24
  try simp only [bl] at fb24
  refine gF hb24 2 underlying56 sizeOf52 ?_;refine gL hb24 isAgg52 ?_;refine qu (wS rfl rfl hb24) rfl underlying52 rfl (hsu) ?_;refine gF hb24 2 underlying56 sizeOf52 ?_;refine gL hb24 isAgg52 ?_;refine qu (wS rfl rfl hb24) rfl underlying52 rfl (gsu) ?_;refine gV hb24 ?_;refine oN ?_;exact qa rfl
 refine nT ?_;refine cC rfl (fun h1 => ?_) (fun h1 => ?_)
 ·
  have f1 := h1;try simp only [bl] at f1
  have hne : t ≠ u := fun e => by
    have e0 : t.ins = u.ins := by rw [e]
    have e1 : t.ops.length = u.ops.length := by rw [e]
    have e2 : t.outs.length = u.outs.length := by rw [e]
    rw [hol,gol,hul,gul] at f1
    omega
  refine sR ?_;refine oV ?_;refine nF ?_;refine ret1 rfl rfl ?_;exact qe (congrArg Value.bool (qmr hne).symm)
 have f1 := h1;try simp only [bl] at f1
 have hin : t.ins = u.ins := by rw [hol,gol,hul,gul] at f1; omega
 have hlm : os.length = ps.length := by rw [hol,gol,hul,gul] at f1; omega
 have ham : t.outs.length = u.outs.length := by rw [hol,gol,hul,gul] at f1; omega
 refine cK (tC (cS (sR ?_)));refine oV ?_;refine oN (tC (cB ?_));refine qt (ι := Nat) [2,3] (.cons rfl (.cons rfl .nil)) (fun x => os.length - x) (fun x E0 => (5,.int .i64 (x : Int)) :: E0) (fun x => St w [] I [.box b3 (.cells #[.int .i64 u.ins,vb,ub] 56 (0,0)),.box b2 (.cells #[.int .i64 t.ins,va,ua] 56 (0,0))]) (fun x => x ≤ os.length ∧ t.ops.take x = u.ops.take x) (0) (sC rfl (sC rfl (sC rfl sN))) (fun _ h => h) (⟨Nat.zero_le _,rfl⟩) ?_;rintro i ⟨hi,hT⟩
 try dsimp only
 refine cS (sR ?_);refine oV ?_;refine oF 1 underlying56 sizeOf54 ?_;refine oL isAgg54 ?_;refine qu trivial rfl underlying54 rfl (hso) ?_;refine oV ?_;refine nT ?_;refine cC rfl (fun h2 => ?_) (fun h2 => ?_)
 ·
  have f2 := h2;try simp only [bl] at f2
  obtain ⟨x,hx⟩ : ∃ x,os[i]? = some x := ⟨os[i]'(by omega),List.getElem?_eq_getElem (by omega)⟩
  obtain ⟨y,hy⟩ : ∃ y,ps[i]? = some y := ⟨ps[i]'(by omega),List.getElem?_eq_getElem (by omega)⟩
  have hx2 : t.ops[i]? = some x.c := by rw [← ht.eq,List.getElem?_map,hx]; rfl
  have hy2 : u.ops[i]? = some y.c := by rw [← hu.eq,List.getElem?_map,hy]; rfl
  have xok := ht.ok x (List.mem_of_getElem? hx)
  have yok := hu.ok y (List.mem_of_getElem? hy)
  have hatx := OpV.at_ ht hx
  have haty := OpV.at_ hu hy
  obtain ⟨⟨code,a,b,e,neg,n,d⟩,vn,vd⟩ := x
  obtain ⟨⟨code2,a2,b2',e2,neg2,n2,d2⟩,vn2,vd2⟩ := y
  have ha : Ws I vn n := xok.1
  have hb : Ws I vd d := xok.2
  have hc : Ws I vn2 n2 := yok.1
  have hd : Ws I vd2 d2 := yok.2
  refine cK (tC (cS (cB (sR ?_))));refine oF 1 underlying56 sizeOf54 ?_;refine oL isAgg54 ?_;refine oV ?_;refine vk trivial rfl underlying54 sizeOf69 rfl (hso) rfl (by omega) ?_;refine jz trivial rfl isAgg69 sizeOf69 rfl rfl (hatx) ?_;refine qq trivial rfl zeroValue69 rfl (fun b6 => ?_);refine oS sizeOf69 ?_;refine nS ?_;refine oF 1 underlying56 sizeOf54 ?_;refine oL isAgg54 ?_;refine oV ?_;refine vk trivial rfl underlying54 sizeOf69 rfl (gso) rfl (by omega) ?_;refine jz trivial rfl isAgg69 sizeOf69 rfl rfl (haty) ?_;refine qq trivial rfl zeroValue69 rfl (fun b7 => ?_);refine oS sizeOf69 ?_;refine nS ?_;refine oF 4 underlying69 sizeOf35 ?_;refine oA isAgg35 sizeOf35 ?_;refine oF 4 underlying69 sizeOf35 ?_;refine oA isAgg35 sizeOf35 ?_;refine oQ call67 rfl (qgl neg neg2 vn vd vn2 vd2 n d n2 d2 ha hb hc hd) ?_;refine oV ?_;refine nS ?_;iterate 2 refine oV ?_
  refine' oZ (fun hb57 => ?_) ?_;rotate_left
  ·
   have fb57 := hb57
   try simp only [bl] at fb57
   refine gF hb57 0 underlying69 sizeOf3 ?_;refine gL hb57 isAgg3 ?_;refine gF hb57 0 underlying69 sizeOf3 ?_;refine gL hb57 isAgg3 ?_;refine gV hb57 ?_;refine oN ?_;exact qa rfl
  refine' oZ (fun hb64 => ?_) ?_;rotate_left
  ·
   have fb64 := hb64
   try simp only [bl] at fb64
   refine gF hb64 1 underlying69 sizeOf3 ?_;refine gL hb64 isAgg3 ?_;refine gF hb64 1 underlying69 sizeOf3 ?_;refine gL hb64 isAgg3 ?_;refine gV hb64 ?_;refine oN ?_;exact qa rfl
  refine' oZ (fun hb71 => ?_) ?_;rotate_left
  ·
   have fb71 := hb71
   try simp only [bl] at fb71
   refine gF hb71 2 underlying69 sizeOf3 ?_;refine gL hb71 isAgg3 ?_;refine gF hb71 2 underlying69 sizeOf3 ?_;refine gL hb71 isAgg3 ?_;refine gV hb71 ?_;refine oN ?_;exact qa rfl
  refine' oZ (fun hb78 => ?_) ?_;rotate_left
  ·
   have fb78 := hb78
   try simp only [bl] at fb78
   refine gF hb78 3 underlying69 sizeOf3 ?_;refine gL hb78 isAgg3 ?_;refine gF hb78 3 underlying69 sizeOf3 ?_;refine gL hb78 isAgg3 ?_;refine gV hb78 ?_;refine oN ?_;exact qa rfl
  refine nT ?_;refine cC rfl (fun h3 => ?_) (fun h3 => ?_)
  ·
   have f3 := h3;try simp only [bl] at f3
   have hne : t ≠ u := fun e => by
     have e2 := qt4 (by rw [e]) hx2 hy2
     simp only at e2
     injection e2 with g1 g2 g3 g4 g5 g6 g7
     subst g1 g2 g3 g4 g5 g6 g7
     simp at h3
   refine sR ?_;refine oV ?_;refine oN (tC (cT (qb (tR (tR (qb (tR ?_)))))));refine ret1 rfl rfl ?_;exact qe (congrArg Value.bool (qmr hne).symm)
  have f3 := h3;try simp only [bl] at f3
  have hst : (⟨code,a,b,e,neg,n,d⟩ : OpC) = ⟨code2,a2,b2',e2,neg2,n2,d2⟩ := by
    simp at h3
    obtain ⟨⟨⟨⟨⟨⟨g1,g2⟩,g3⟩,g4⟩,g5⟩,g6⟩,g7⟩ := h3
    subst g1 g2 g3 g4 g5 g6 g7
    rfl
  refine cK (qg (tC (cR ?_)));refine oV ?_
  (refine qh trivial rfl rfl rfl ?_ ?_; (omega))
  refine oV ?_;refine oN ?_;exact ql (i + 1) (sC rfl (sC rfl (sC rfl sN))) (fun _ h => h.sort (by repeat constructor)) (by show os.length - (i + 1) < os.length - i; omega) ⟨by show i + 1 ≤ _; omega,take_more hT hx2 hy2 hst⟩
 have f2 := h2;try simp only [bl] at f2
 have heops : t.ops = u.ops := qt3 (by omega) hT (by omega)
 refine qp (qc (qc (qo rfl (tC (cS (sR ?_))))));refine oV ?_;refine oN (tC (cB ?_));refine qt (ι := Nat) [2,3] (.cons rfl (.cons rfl .nil)) (fun x => t.outs.length - x) (fun x E0 => (9,.int .i64 (x : Int)) :: E0) (fun x => St w [] I [.box b3 (.cells #[.int .i64 u.ins,vb,ub] 56 (0,0)),.box b2 (.cells #[.int .i64 t.ins,va,ua] 56 (0,0))]) (fun x => x ≤ t.outs.length ∧ t.outs.take x = u.outs.take x) (0) (sC rfl (sC rfl (sC rfl sN))) (fun _ h => h) (⟨Nat.zero_le _,rfl⟩) ?_;rintro j ⟨hj,hta⟩
 try dsimp only
 refine cS (sR ?_);refine oV ?_;refine oF 2 underlying56 sizeOf52 ?_;refine oL isAgg52 ?_;refine qu trivial rfl underlying52 rfl (hsu) ?_;refine oV ?_;refine nT ?_;refine cC rfl (fun h4 => ?_) (fun h4 => ?_)
 ·
  have f4 := h4;try simp only [bl] at f4
  obtain ⟨x,hx⟩ : ∃ x,t.outs[j]? = some x := ⟨t.outs[j]'(by omega),List.getElem?_eq_getElem (by omega)⟩
  obtain ⟨y,hy⟩ : ∃ y,u.outs[j]? = some y := ⟨u.outs[j]'(by omega),List.getElem?_eq_getElem (by omega)⟩
  refine cK (tC (cS (cB (cS ?_))));refine jf (by kernel_rfl) (by kernel_rfl) (fun _ h => h.drawn) ?_;refine oF 2 underlying56 sizeOf52 ?_;refine oL isAgg52 ?_;refine oV ?_;refine vk trivial rfl underlying52 sizeOf3 rfl (hsu) rfl (by omega) ?_;refine q7 trivial rfl isAgg3 rfl (qf6 hsu hx) ?_;refine oF 2 underlying56 sizeOf52 ?_;refine oL isAgg52 ?_;refine oV ?_;refine vk trivial rfl underlying52 sizeOf3 rfl (gsu) rfl (by omega) ?_;refine q7 trivial rfl isAgg3 rfl (qf6 gsu hy) ?_;refine oV ?_;refine nT ?_;refine cC rfl (fun h5 => ?_) (fun h5 => ?_)
  ·
   have f5 := h5;try simp only [bl] at f5
   have hne : t ≠ u := fun e => by
     have e2 : x = y := qt4 (by rw [e]) hx hy
     rw [e2] at h5; simp at h5
   refine sR ?_;refine oV ?_;refine oN (tC (cT (qb (tR (tR (qb (tR ?_)))))));refine ret1 rfl rfl ?_;exact qe (congrArg Value.bool (qmr hne).symm)
  have f5 := h5;try simp only [bl] at f5
  have hxy : x = y := by simpa using h5
  refine cK (qg (tC (cR ?_)));refine oV ?_
  (refine qh trivial rfl rfl rfl ?_ ?_; (omega))
  refine oV ?_;refine oN ?_;exact ql (j + 1) (sC rfl (sC rfl (sC rfl sN))) (fun _ h => h) (by show t.outs.length - (j + 1) < t.outs.length - j; omega) ⟨by show j + 1 ≤ _; omega,take_more hta hx hy hxy⟩
 have f4 := h4;try simp only [bl] at f4
 have heout : t.outs = u.outs := qt3 (by omega) hta (by omega)
 refine qp (qc (qc (qo rfl (tC (sR ?_)))));refine oV ?_;refine nE ?_;refine ret1 rfl rfl ?_;refine qe (congrArg Value.bool (qmq.2 ?_).symm)
 obtain ⟨t1,t2,t3⟩ := t
 obtain ⟨u1,u2,u3⟩ := u
 simp only at hin heops heout
 subst hin heops heout
 rfl
theorem q5b (t : jw) (vo vu : Value) (os : List OpV) {I : Hp} (ht : jp I vo vu t os) (hf : ∀ o ∈ t.ops,OpC.few 2000000 o) : Fun prog 37 [.agg #[.int .i64 t.ins,vo,vu]] I [] (fun v I' _ => Slc I' 1 v (nls ((v7 t).getD []))) := by
 intro w hw
 refine qn _ func37 rfl ntmps37 rfl ?_ hw;refine sR ?_;refine vh trivial rfl rfl rfl (fun b1 => ?_);refine oV ?_;refine nS ?_;refine oA isAgg56 sizeOf56 ?_;refine oI call68 rfl (qqo t vo vu os ht hf) ?_;rintro _ I1 hx1 ⟨u,rfl,hs1⟩;iterate 5 refine oV ?_
 refine nU ?_;iterate 2 refine oV ?_
 refine nT ?_;refine cC rfl (fun h1 => ?_) (fun h1 => ?_)
 ·
  have f1 := h1;try simp only [bl] at f1
  have hn : v7 t = none := by
    cases hc : v7 t with
    | none => rfl
    | some l => rw [hc] at h1; cases h1
  refine sR ?_;refine oV ?_;refine nF ?_;refine ret1 rfl rfl ?_;refine leaf hx1 (List.nil_sublist _) ?_
  rw [hn]
  exact Slc.nil _ _
 have f1 := h1;try simp only [bl] at f1
 obtain ⟨l,hl⟩ : ∃ l,v7 t = some l := by
   cases hc : v7 t with
   | none => rw [hc] at h1; cases h1
   | some l => exact ⟨l,rfl⟩
 refine kS ?_;iterate 2 refine oV ?_
 refine nE ?_;refine ret1 rfl rfl ?_;refine leaf hx1 (List.nil_sublist _) ?_
 rw [hl]
 exact hs1 l hl
def P10 (I : Hp) : Prop := ∃ T f, I 1 = some (.cells (Lib.pow10Tab.map fun z => Value.int .u64 z).toArray T f)
theorem P10.le {I I' : Hp} (h : P10 I) (hl : I.Le I') : P10 I' := by
 obtain ⟨T, f, h⟩ := h
 exact ⟨T, f, hl _ _ h⟩
theorem P10.tab {I : Hp} (h : P10 I) {w : World} (hw : I.In w) : Lib.TabIs prog w "internal/strconv.uint64pow10" .u64 Lib.pow10Tab := by
 obtain ⟨T, f, h⟩ := h
 have hg : prog.globalNamed "internal/strconv.uint64pow10" = some 1 := by kernel_rfl
 unfold Lib.TabIs World.var?
 rw [hg]
 show (match w.heap[1]? with
   | some (.cells cs _ _) => some cs
   | _ => none) = _
 rw [hw _ _ h]
theorem sum_bad {all : List NodeC} {L r : List Tok} (h : Ps .atom all L (.bad r)) (h1 : hdT L 2 vf = false) : Ps .sum all L (.bad r) := .sum_bad (.product_bad (.fac h1 (.power_bad h)))
def _root_.Go.Tw.LSO.left : LSO → List Tok
 | .bad r => r
 | .ok _ _ r => r
def pc (m : Bool) : Nat := if m then 1 else 0
def inn : Ex → Nat
 | .ref _ => 0
 | .num _ => 0
 | .neg x => inn x + pc (decide (ym x < 3))
 | .pow x _ => inn x + pc (decide (ym x < 5))
 | .bin k x y => inn x + pc (decide (ym x < if 4 ≤ k then 2 else 1)) + (inn y + pc (decide (ym y < (if 4 ≤ k then 2 else 1) + 1)))
def need (x : Ex) (m : Int) : Nat := inn x + pc (decide (ym x < m))
theorem q5c (m : Bool) : pc m ≤ 1 := by cases m <;> decide
theorem q5d {b m n : Int} (h : m ≤ n) : pc (decide (b < m)) ≤ pc (decide (b < n)) := by
 by_cases h1 : b < m
 · rw [decide_eq_true h1,decide_eq_true (show b < n by omega)]; exact Nat.le_refl _
 · rw [decide_eq_false h1]; exact Nat.zero_le _
theorem qin (x : Ex) {m n : Int} (h : m ≤ n) : need x m ≤ need x n := Nat.add_le_add_left (q5d h) _
theorem qt6 (x : Ex) {m : Int} (h : m ≤ 1) : need x m = inn x := by
 unfold need
 rw [decide_eq_false (by have := q2g x; omega)]; rfl
theorem q5e (x : Ex) (m : Int) : need x m ≤ inn x + 1 := Nat.add_le_add_left (q5c _) _
def lp : List Tok → Nat
 | [] => 0
 | t :: r => pc (isT t 2 lpar) + lp r
theorem qt7 : ∀ (a b : List Tok), lp (a ++ b) = lp a + lp b
 | [],b => by rw [List.nil_append]; show lp b = 0 + lp b; omega
 | t :: a,b => by rw [List.cons_append,lp,lp,qt7 a b]; omega
def Lv.at_ : Lv → Int
 | .atom => 5
 | .powL => 4
 | .power => 4
 | .factor => 3
 | .prodL => 2
 | .product => 2
 | .sumL => 1
 | .sum => 1
def Lv.from_ : Lv → Int
 | .powL => 5
 | lv => Lv.at_ lv
def q5f (lv : Lv) (all : List NodeC) (r : List Tok) (a1 : List NodeC) (r1 : List Tok) : Prop :=
 if lv.tail then ∀ (b : List NodeC) (x : Ex),x.ok → all = b ++ x.nd b.length → ∃ y : Ex,y.ok ∧ a1 = b ++ y.nd b.length ∧ lp r1 + need y (Lv.at_ lv) ≤ lp r + need x (Lv.from_ lv)
 else ∃ y : Ex,y.ok ∧ a1 = all ++ y.nd all.length ∧ lp r1 + need y (Lv.at_ lv) ≤ lp r
theorem Expo.lp_ {r r1 : List Tok} {e : Option Int} (h : Expo r e r1) : lp r1 ≤ lp r := by
 have h1 : ∀ (x : Tok) (r : List Tok),lp r ≤ lp (x :: r) := fun x r => Nat.le_add_left _ _
 cases h with
 | neg _ _ _ => exact Nat.le_trans (h1 _ _) (h1 _ _)
 | neg_end _ => exact h1 _ _
 | neg_bad _ _ => exact h1 _ _
 | pos _ _ _ => exact h1 _ _
 | pos_end => exact Nat.le_refl _
 | pos_bad _ _ => exact Nat.le_refl _
theorem Ps.cnt {lv : Lv} {all : List NodeC} {r : List Tok} {o : POut} (h : Ps lv all r o) (hr : yz r) : ∀ a1 r1,o = .ok a1 r1 → q5f lv all r a1 r1 := by
 have bin_ex : ∀ {k : Int} {all a1 b : List NodeC} {x y : Ex},2 ≤ k ∧ k ≤ 5 → x.ok → y.ok → all = b ++ x.nd b.length → a1 = all ++ y.nd all.length → (Ex.bin k x y).ok ∧ a1 ++ [binN k (vr all) (vr a1)] = b ++ (Ex.bin k x y).nd b.length := by
   rintro k all a1 b x y hk hx hy rfl rfl;refine ⟨⟨hk.1,hk.2,hx,hy⟩,?_⟩
   rw [zf,zf,List.length_append,x.nd_len,List.append_assoc,List.append_assoc]
   simp only [Ex.nd,List.append_assoc]
   congr 4
 have hc : ∀ (x : Tok) (r : List Tok),lp r ≤ lp (x :: r) := fun x r => Nat.le_add_left _ _
 induction h with
 | par_bad _ _ _ => intro _ _ e; cases e
 | @par_ok all a1 x y r r1 h1 h2 h3 ih =>
   intro _ _ e; cases e
   obtain ⟨z,hz,ez,hl⟩ := ih (hr.suf (List.suffix_cons _ _)) _ _ rfl
   refine ⟨z,hz,ez,?_⟩
   have hy := hc y r1
   have hu := q5e z 5
   have hn : need z (Lv.at_ .sum) = inn z := qt6 z (Int.le_refl _)
   rw [hn] at hl
   show lp r1 + need z 5 ≤ pc (isT x 2 lpar) + lp r
   rw [h1]
   show _ ≤ 1 + _
   omega
 | par_no _ _ _ _ => intro _ _ e; cases e
 | @leaf all x r h =>
   intro _ _ e; cases e
   obtain ⟨y,h1,hn,h3⟩ := qpv h (hr _ (by simp))
   refine ⟨y,h1,by rw [h3],?_⟩
   have h0 : need y 5 = 0 := by
     cases y with
     | ref t => rfl
     | num q => rfl
     | neg x => have := x.n_pos; simp only [Ex.n] at hn; omega
     | pow x e => have := x.n_pos; simp only [Ex.n] at hn; omega
     | bin k x y => have := x.n_pos; simp only [Ex.n] at hn; omega
   have := hc x r
   show lp r + need y 5 ≤ _
   omega
 | none => intro _ _ e; cases e
 | no _ _ => intro _ _ e; cases e
 | pow_none _ =>
   intro _ _ e; cases e
   exact fun b x hx hb => ⟨x,hx,hb,Nat.add_le_add_left (qin x (by decide)) _⟩
 | @pow_ok all x r r1 ee h1 h =>
   intro _ _ e; cases e
   refine fun b y hx hb => ⟨.pow y _,⟨hx,h.le (hr.suf (List.suffix_cons _ _))⟩,?_,?_⟩
   · rw [hb,zf,List.append_assoc]; rfl
   · have h2 := Expo.lp_ h
     have h3 := hc x r
     have h4 : need (.pow y ee) (Lv.at_ .powL) = need y 5 := by
       unfold need
       rw [decide_eq_false (show ¬ ym (.pow y ee) < Lv.at_ .powL by show ¬ (4 : Int) < 4; decide)]
       rfl
     rw [h4]
     show _ ≤ lp (x :: r) + need y 5
     omega
 | pow_bad _ _ => intro _ _ e; cases e
 | power_bad _ _ => intro _ _ e; cases e
 | power_ok h1 _ ih1 ih2 =>
   intro _ _ e
   obtain ⟨y,hy,e1,l1⟩ := ih1 hr _ _ rfl
   obtain ⟨z,hz,e2,l2⟩ := ih2 (hr.suf h1.suf) _ _ e _ y hy e1
   refine ⟨z,hz,e2,?_⟩
   change _ + need y 5 ≤ _ at l1
   change _ + need z 4 ≤ _ + need y 5 at l2
   show _ + need z 4 ≤ _
   omega
 | neg_bad _ _ _ => intro _ _ e; cases e
 | @neg_ok all a1 x r r1 h1 h2 ih =>
   intro _ _ e; cases e
   obtain ⟨y,hy,e1,l1⟩ := ih (hr.suf (List.suffix_cons _ _)) _ _ rfl
   refine ⟨.neg y,hy,?_,?_⟩
   · rw [e1,zf,List.append_assoc]; rfl
   · have h3 := hc x r
     have h4 : need (.neg y) (Lv.at_ .factor) = need y 3 := by
       unfold need
       rw [decide_eq_false (show ¬ ym (.neg y) < Lv.at_ .factor by show ¬ (3 : Int) < 3; decide)]
       rfl
     rw [h4]
     change _ + need y 3 ≤ _ at l1
     omega
 | fac _ _ ih =>
   intro _ _ e
   obtain ⟨y,hy,e1,l1⟩ := ih hr _ _ e
   refine ⟨y,hy,e1,Nat.le_trans (Nat.add_le_add_left (qin y (by decide)) _) l1⟩
 | prodL_end _ =>
   intro _ _ e; cases e
   exact fun b x hx hb => ⟨x,hx,hb,Nat.le_refl _⟩
 | prodL_bad _ _ _ => intro _ _ e; cases e
 | @prodL_ok all a1 x r r1 k o hk h1 h2 ih1 ih2 =>
   intro _ _ e b z hx hb
   have hr1 := hr.suf (List.suffix_cons _ _)
   obtain ⟨y,hy,e1,l1⟩ := ih1 hr1 _ _ rfl
   obtain ⟨h2,h3⟩ := bin_ex (qkd hk) hx hy hb e1
   obtain ⟨u,hu,e2,l2⟩ := ih2 (hr1.suf h1.suf) _ _ e b _ h2 h3
   refine ⟨u,hu,e2,?_⟩
   have hxr := hc x r
   have h4 : need (.bin k z y) 2 = need z 2 + need y 3 := by
     have hge := (qj7 hk).1
     unfold need
     rw [decide_eq_false (show ¬ ym (.bin k z y) < 2 by show ¬ (if 4 ≤ k then (2 : Int) else 1) < 2; rw [if_pos hge]; decide)]
     show inn z + pc (decide (ym z < if 4 ≤ k then 2 else 1)) + (inn y + pc (decide (ym y < (if 4 ≤ k then 2 else 1) + 1))) + 0 = _
     rw [if_pos hge]; rfl
   change _ + need u 2 ≤ _ + need (.bin k z y) 2 at l2
   change _ + need y 3 ≤ _ at l1
   show _ + need u 2 ≤ _ + need z 2
   omega
 | product_bad _ _ => intro _ _ e; cases e
 | product_ok h1 _ ih1 ih2 =>
   intro _ _ e
   obtain ⟨y,hy,e1,l1⟩ := ih1 hr _ _ rfl
   obtain ⟨z,hz,e2,l2⟩ := ih2 (hr.suf h1.suf) _ _ e _ y hy e1
   refine ⟨z,hz,e2,?_⟩
   have hm := qin y (show (2 : Int) ≤ 3 by decide)
   change _ + need y 3 ≤ _ at l1
   change _ + need z 2 ≤ _ + need y 2 at l2
   show _ + need z 2 ≤ _
   omega
 | sumL_end _ =>
   intro _ _ e; cases e
   exact fun b x hx hb => ⟨x,hx,hb,Nat.le_refl _⟩
 | sumL_bad _ _ _ => intro _ _ e; cases e
 | @sumL_ok all a1 x r r1 k o hk h1 h2 ih1 ih2 =>
   intro _ _ e b z hx hb
   have hr1 := hr.suf (List.suffix_cons _ _)
   obtain ⟨y,hy,e1,l1⟩ := ih1 hr1 _ _ rfl
   obtain ⟨h2,h3⟩ := bin_ex (qke hk) hx hy hb e1
   obtain ⟨u,hu,e2,l2⟩ := ih2 (hr1.suf h1.suf) _ _ e b _ h2 h3
   refine ⟨u,hu,e2,?_⟩
   have hxr := hc x r
   have h4 : need (.bin k z y) 1 = need z 1 + need y 2 := by
     have hlt := (qj8 hk).2
     unfold need
     rw [decide_eq_false (show ¬ ym (.bin k z y) < 1 by show ¬ (if 4 ≤ k then (2 : Int) else 1) < 1; rw [if_neg (by omega)]; decide)]
     show inn z + pc (decide (ym z < if 4 ≤ k then 2 else 1)) + (inn y + pc (decide (ym y < (if 4 ≤ k then 2 else 1) + 1))) + 0 = _
     rw [if_neg (by omega)]; rfl
   change _ + need u 1 ≤ _ + need (.bin k z y) 1 at l2
   change _ + need y 2 ≤ _ at l1
   show _ + need u 1 ≤ _ + need z 1
   omega
 | sum_bad _ _ => intro _ _ e; cases e
 | sum_ok h1 _ ih1 ih2 =>
   intro _ _ e
   obtain ⟨y,hy,e1,l1⟩ := ih1 hr _ _ rfl
   obtain ⟨z,hz,e2,l2⟩ := ih2 (hr.suf h1.suf) _ _ e _ y hy e1
   refine ⟨z,hz,e2,?_⟩
   have hm := qin y (show (1 : Int) ≤ 2 by decide)
   change _ + need y 2 ≤ _ at l1
   change _ + need z 1 ≤ _ + need y 1 at l2
   show _ + need z 1 ≤ _
   omega
def qbt (l : List (ByteArray × Ex)) : Nat := (l.map fun a => inn a.2).sum
theorem q5g (a b : List (ByteArray × Ex)) : qbt (a ++ b) = qbt a + qbt b := by simp [qbt]
theorem qt8 {a b : List Tok} (h : a <:+ b) : lp a ≤ lp b := by
 obtain ⟨c,rfl⟩ := h
 rw [qt7]; omega
theorem Lt1.cnt {all a1 : List NodeC} {r r1 : List Tok} {s : ByteArray} (h : Lt1 all r (.ok s a1 r1)) (hr : yz r) : vt s = true ∧ r1 <:+ r ∧ ∃ x : Ex,x.ok ∧ a1 = all ++ x.nd all.length ∧ lp r1 + inn x ≤ lp r := by
 obtain ⟨k1,k2,_⟩ := h.ex hr
 refine ⟨k1,k2,?_⟩
 cases h with
 | ok h1 h2 h3 h4 =>
   obtain ⟨x,hx,e,hl⟩ := Ps.cnt h3 (hr.suf ⟨[_,_],rfl⟩) _ _ rfl
   refine ⟨x,hx,e,?_⟩
   rw [show need x (Lv.at_ .sum) = inn x from qt6 x (Int.le_refl _)] at hl
   rename_i x' y' z' r'
   have a1 : lp r1 ≤ lp (z' :: r1) := Nat.le_add_left _ _
   have a2 : lp r' ≤ lp (x' :: y' :: r') := qt8 ⟨[_,_],rfl⟩
   omega
theorem Lts.cnt {ls : List LetC} {all : List NodeC} {r : List Tok} {o : LSO} (h : Lts ls all r o) : yz r → ∀ l : List (ByteArray × Ex),jv l → ls = (laid l 0).1 → all = (laid l 0).2 → ∀ ls1 a1 r1,o = .ok ls1 a1 r1 → r1 <:+ r ∧ ∃ l',jv l' ∧ ls1 = (laid l' 0).1 ∧ a1 = (laid l' 0).2 ∧ lp r1 + qbt l' ≤ lp r + qbt l := by
 induction h with
 | fin _ => intro hr l hl h1 h2 _ _ _ e; cases e; exact ⟨List.suffix_refl _,l,hl,h1,h2,Nat.le_refl _⟩
 | bad _ _ => intro hr l hl h1 h2 _ _ _ e; cases e
 | more hx h3 h4 ih =>
   intro hr l hl h1 h2 ls1 a2 r2 e
   have hr1 := hr.suf (List.suffix_cons _ _)
   obtain ⟨k1,k2,x,hx2,e2,hc⟩ := Lt1.cnt h3 hr1
   subst h1 h2
   obtain ⟨q1, l', q2, q3, q4, q5⟩ := ih (hr1.suf k2) (l ++ [(_, x)]) (fun a ha => by
     rcases List.mem_append.1 ha with ha | ha
     · exact hl a ha
     · rw [List.mem_singleton.1 ha]; exact ⟨k1,hx2⟩) (by rw [qes,e2,zf]; simp) (by rw [qes,e2]; simp) _ _ _ e
   refine ⟨q1.trans (k2.trans (List.suffix_cons _ _)),l',q2,q3,q4,?_⟩
   rw [q5g] at q5
   have e5 : ∀ s : ByteArray,qbt [(s,x)] = inn x := fun s => by simp [qbt]
   rw [e5] at q5
   rename_i a1' x' n' r' r1' o'
   have h9 : lp r' ≤ lp (x' :: r') := Nat.le_add_left _ _
   omega
theorem Prg.cnt {r : List Tok} {p : qv} (h : Prg r (.ok p)) (hr : yz r) : ∃ l,Shaped p l ∧ qbt l ≤ lp r := by
 cases h with
 | ok h1 h2 h3 h4 h5 =>
   have hr1 := hr.suf (List.suffix_cons _ _)
   obtain ⟨k1,k2⟩ := qh0 _ h2
   obtain ⟨q1,l,q2,q3,q4,q5⟩ := Lts.cnt h3 (hr1.suf k2) [] (fun a ha => by cases ha) rfl rfl _ _ _ rfl
   refine ⟨l,⟨q3,q4,q2⟩,?_⟩
   rename_i x' y' r' r1' r2' i' o' l' a'
   have h6 : lp r1' ≤ lp (x' :: r') := qt8 (k2.trans (List.suffix_cons _ _))
   have h7 : qbt [] = 0 := rfl
   omega
def _root_.Go.Tw.NOut.rest : NOut → List Tok
 | .bad r => r
 | .ok _ r => r
theorem qms : ∀ (r : List Tok), (q9 r).rest <:+ r
 | [] => List.suffix_refl _
 | [x] => by
   unfold q9
   split
   · exact List.nil_suffix
   · exact List.suffix_refl _
 | x :: y :: r => by
   have ih := qms r
   unfold q9
   split
   · split
     · cases h : q9 r with
       | bad r1 => rw [h] at ih; exact List.IsSuffix.trans ih ⟨[_,_],rfl⟩
       | ok l r1 => rw [h] at ih; exact List.IsSuffix.trans ih ⟨[_,_],rfl⟩
     · split
       · exact ⟨[_,_],rfl⟩
       · exact List.suffix_cons _ _
   · exact List.suffix_refl _
def _root_.Go.Tw.LO.rest : LO → List Tok
 | .bad r => r
 | .ok _ _ r => r
theorem _root_.Go.Tw.Lt1.suf {all : List NodeC} {r : List Tok} {o : LO} (h : Lt1 all r o) : o.rest <:+ r := by
 cases h with
 | noname _ => exact List.suffix_refl _
 | noeq _ _ => exact List.suffix_cons _ _
 | sumbad _ _ h => exact List.IsSuffix.trans h.suf ⟨[_,_],rfl⟩
 | nosemi _ _ h _ => exact List.IsSuffix.trans h.suf ⟨[_,_],rfl⟩
 | ok _ _ h _ => exact List.IsSuffix.trans ((List.suffix_cons _ _).trans h.suf) ⟨[_,_],rfl⟩
def _root_.Go.Tw.LSO.rest : LSO → List Tok
 | .bad r => r
 | .ok _ _ r => r
theorem _root_.Go.Tw.Lts.suf {ls : List LetC} {all : List NodeC} {r : List Tok} {o : LSO} (h : Lts ls all r o) : o.rest <:+ r := by
 induction h with
 | fin _ => exact List.suffix_refl _
 | bad _ h => exact List.IsSuffix.trans h.suf (List.suffix_cons _ _)
 | more _ h _ ih => exact ih.trans (List.IsSuffix.trans h.suf (List.suffix_cons _ _))
theorem _root_.Go.Tw.Prg.suf {r r1 : List Tok} (h : Prg r (.bad r1)) : r1 <:+ r := by
 have nm : ∀ {r r1 : List Tok} {l : List ByteArray},q9 r = .ok l r1 → r1 <:+ r := fun {r r1 l} h => by have := qms r; rw [h] at this; exact this
 have nb : ∀ {r r1 : List Tok},q9 r = .bad r1 → r1 <:+ r := fun {r r1} h => by have := qms r; rw [h] at this; exact this
 cases h with
 | noin _ => exact List.suffix_refl _
 | insbad _ h => exact (nb h).trans (List.suffix_cons _ _)
 | letsbad _ h1 h2 => exact h2.suf.trans ((nm h1).trans (List.suffix_cons _ _))
 | noout _ h1 h2 _ => exact h2.suf.trans ((nm h1).trans (List.suffix_cons _ _))
 | outsbad _ h1 h2 _ h3 => exact (nb h3).trans ((List.suffix_cons _ _).trans (h2.suf.trans ((nm h1).trans (List.suffix_cons _ _))))
 | tail _ h1 h2 _ h3 => exact (nm h3).trans ((List.suffix_cons _ _).trans (h2.suf.trans ((nm h1).trans (List.suffix_cons _ _))))
theorem q5h {s : ByteArray} {p : qv} {l : List (ByteArray × Ex)} (h1 : (lexZ s).err = 0) (h2 : (lexZ s).toks.map st = qly p.ins p.outs l) (h : qa5 p l) : qcx s = ⟨p,0,0,0⟩ := by
 have hp := q2r h.ins.1 h.ins.2.1 h.ok h.outs.1 h.outs.2.1
 rw [← h.lets,← h.all] at hp
 unfold qcx
 rw [h1,if_neg (by decide),q2f h2 hp]
 unfold qf9
 dsimp only
 rw [if_pos (by rw [qk4 h]; rfl)]
theorem dec1 : decS 1 = ⟨#[49]⟩ := by
 have h : digs 1 = [49] := by rw [digs,dif_pos (by decide)]
 unfold decS decL; rw [h]; rfl
theorem rat1 : ratS 1 = ⟨#[49]⟩ := by
 unfold ratS; rw [if_pos (show (1 : Rat).den = 1 from rfl)]; exact dec1
theorem q5i {n : Nat} (h : n ≤ 9) : (Ex.num (n : Rat)).ok := by
 have e : digs n = [48 + n] := by rw [digs,dif_pos (by omega)]
 have e1 : digs 1 = [49] := by rw [digs,dif_pos (by decide)]
 refine ⟨?_,?_,?_⟩
 · show (0 : Int) ≤ ((n : Int) : Int); omega
 · show (digs ((n : Int).natAbs)).length ≤ 40; rw [Int.natAbs_natCast,e]; show 1 ≤ 40; decide
 · show (digs 1).length ≤ 40; rw [e1]; decide
theorem q5j {p : qv} {ns : List qd} (h : fewP p 40 = true) (he : ns.map qd.c = p.all) : (∀ o ∈ ns,o.c.few 3000) ∧ ns.length ≤ 1000 ∧ ∀ o ∈ ns,o.c.few 2000000 := by
 obtain ⟨m1,m2,m3,m4,m5,m6⟩ := q4f h he
 refine ⟨fun o ho => qs1 (m5 o ho) (by decide),?_,fun o ho => qs1 (m5 o ho) (by decide)⟩
 have : ns.length = p.all.length := by rw [← he,List.length_map]
 omega
def s14 : ByteArray := ⟨#[105,110,32,120,59,32,108,101,116,32,97,32,61,32,120,59,32,108,101,116,32,98,32,61,32,97,32,42,32,40,97,32,43,32,49,41,59,32,111,117,116,32,98,44,32,120,59]⟩
def x14 : Ex := .bin 4 (.ref awA) (.bin 2 (.ref awA) (.num 1))
def l14 : List (ByteArray × Ex) := [(awA,.ref awX),(awB,x14)]
def p14 : qv := ⟨[awX],(laid l14 0).1,[awB,awX],(laid l14 0).2⟩
def t14 : jw := ⟨1,[qdx (mkRat 1 1),⟨2,0,1,0,false,[],[]⟩,⟨4,0,2,0,false,[],[]⟩],[3,0]⟩
theorem ok14 : x14.ok := ⟨by decide,by decide,qmc,by decide,by decide,qmc,q5i (n := 1) (by decide)⟩
theorem qt9 : qa5 p14 l14 where
 lets := rfl
 all := rfl
 ok := fun a ha => by
   simp only [l14,List.mem_cons,List.not_mem_nil,or_false] at ha
   rcases ha with rfl | rfl
   · exact ⟨qmc,qik⟩
   · exact ⟨qtk,ok14⟩
 ins := ⟨fun s hs => by rw [List.mem_singleton.1 hs]; exact qik,by decide,by decide⟩
 outs := ⟨fun s hs => by
   simp only [p14,List.mem_cons,List.not_mem_nil,or_false] at hs
   rcases hs with rfl | rfl
   · exact qtk
   · exact qik,by decide,by decide⟩
 few := ⟨by decide,by decide⟩
 low := fun a ha => by
   simp only [l14,List.mem_cons,List.not_mem_nil,or_false] at ha
   rcases ha with rfl | rfl <;> decide
theorem q5k : qly p14.ins p14.outs l14 = [tk 0 inS,tk 0 awX,tk 2 ye,tk 0 letS,tk 0 awA,tk 2 je,tk 0 awX,tk 2 ye,tk 0 letS,tk 0 awB,tk 2 je,tk 0 awA,tk 2 qaa,tk 2 lpar,tk 0 awA,tk 2 zk,tk 1 ⟨#[49]⟩,tk 2 rpar,tk 2 ye,tk 0 outS,tk 0 awB,tk 2 qab,tk 0 awX,tk 2 ye] := by
 have h1 : shP (.ref awX) = [tk 0 awX] := rfl
 have h2 : shP x14 = [tk 0 awA,gp,tk 2 qaa,gp,tk 2 lpar,tk 0 awA,gp,tk 2 zk,gp,tk 1 (ratS 1),tk 2 rpar] := rfl
 show qe1 inS p14.ins ++ ((letQ (awA,.ref awX) ++ (letQ (awB,x14) ++ [])) ++ qe1 outS p14.outs) = _
 unfold letQ
 dsimp only
 rw [h1,h2,rat1]
 rfl
theorem q5l : qcx s14 = ⟨p14,0,0,0⟩ := q5h (by kernel_rfl) (by rw [q5k]; kernel_rfl) qt9
def K14 : KN := [(awX,⟨false,0⟩),(awA,⟨true,0⟩),(awB,⟨true,1⟩)]
theorem qmt : (vv p14).err = 0 ∧ (vv p14).K = K14 := by
 have h := qgo (p := p14) (n := ⟨#[]⟩) (m := ⟨#[]⟩) (K := [(awX,⟨false,0⟩)]) (K2 := K14) (L := [awX,awA,awA]) (by rw [qk4 qt9]; rfl) (by kernel_rfl) (by kernel_rfl)
 rw [h]
 exact ⟨by kernel_rfl,rfl⟩
theorem qmu (s : ByteArray) : yr p14 s = if hasK s K14 = true then (((getK s K14).getD ⟨false,0⟩).l,((getK s K14).getD ⟨false,0⟩).i,true) else (false,0,false) := by
 unfold yr
 rw [qmt.1,qmt.2]
 simp
theorem qmv {p : qv} {c : NodeC} {r : List NodeC} {i : Nat} {pl : List Int} {ops : List OpC} {z : Int} (h : c.kind = 0) (hz : plcZ p pl c.name = z) : j4 p (c :: r) i pl ops = j4 p r (i + 1) (pl.set i z) ops := by
 rw [j4,if_pos h,hz]
theorem qmw {p : qv} {c : NodeC} {r : List NodeC} {i : Nat} {pl : List Int} {ops : List OpC} (h : c.kind ≠ 0) : j4 p (c :: r) i pl ops = j4 p r (i + 1) (pl.set i ((p.ins.length : Int) + ops.length)) (ops ++ [opL c (pl.set i ((p.ins.length : Int) + ops.length))]) := by
 rw [j4,if_neg h]
theorem q5m : lowT p14 = t14 := by
 have hp : ∀ pl s,plcZ p14 pl s = if (yr p14 s).1 = true then pl.getD ((p14.lets.getD (yr p14 s).2.1.toNat ⟨⟨#[]⟩,0⟩).root.toNat) 0 else (yr p14 s).2.1 := fun _ _ => rfl
 have wX : yr p14 awX = (false,0,true) := by rw [qmu]; kernel_rfl
 have wA : yr p14 awA = (true,0,true) := by rw [qmu]; kernel_rfl
 have wB : yr p14 awB = (true,1,true) := by rw [qmu]; kernel_rfl
 have pX : ∀ pl,plcZ p14 pl awX = 0 := fun pl => by rw [hp,wX]; rfl
 have pA : ∀ pl,plcZ p14 pl awA = pl.getD 0 0 := fun pl => by rw [hp,wA]; rfl
 have pB : ∀ pl,plcZ p14 pl awB = pl.getD 5 0 := fun pl => by rw [hp,wB]; rfl
 have e1 : qbs p14 = ([0,0,0,1,2,3],t14.ops) := by
   unfold qbs
   have e2 : p14.all = [refN awX,refN awA,refN awA,numN 1,binN 2 2 3,binN 4 1 4] := by kernel_rfl
   rw [e2]
   show j4 p14 _ 0 [0,0,0,0,0,0] [] = _
   rw [qmv rfl (pX _),qmv rfl (pA _),qmv rfl (pA _),qmw (by decide),qmw (by decide),qmw (by decide)]
   have e3 : mkRat 1 1 = (1 : Rat) := by decide +kernel
   unfold t14
   rw [e3]
   rfl
 unfold lowT
 rw [e1]
 show (⟨1,t14.ops,[plcZ p14 [0,0,0,1,2,3] awB,plcZ p14 [0,0,0,1,2,3] awX]⟩ : jw) = _
 rw [pB,pX]
 rfl
theorem w14 : v7 t14 = some [1,1,2,3] := by
 have h := q44 (q := mkRat 1 1) (by decide +kernel) (by decide +kernel)
 unfold v7 t14
 simp only [wgts,h,q45,if_true]
 decide +kernel
theorem q5n : lowZ p14 = ⟨t14,⟨#[]⟩,0⟩ := by
 unfold lowZ
 rw [if_neg (by rw [qmt.1]; decide),q5m,w14]
 exact if_pos rfl
theorem qmx : ∀ o ∈ t14.ops, OpC.few 3000 o := fun o ho => by
 simp only [t14,List.mem_cons,List.not_mem_nil,or_false] at ho
 rcases ho with rfl | rfl | rfl
 · exact q46 (q47 (by decide) (by decide))
 · exact qtu _ _ _ _
 · exact qtu _ _ _ _
theorem qmy {l : List OpC} (h : ∀ o ∈ l,OpC.few 3000 o) : ∀ o ∈ l,OpC.few 2000000 o := fun o ho => ⟨Nat.le_trans (h o ho).1 (by decide),Nat.le_trans (h o ho).2 (by decide)⟩
theorem q5o {I : Hp} (hT : Tabs I) (hM : Mx I) (hE : Errs I) : Fun prog 29 [] I [] (fun v _ _ => v = .bool true) := by
 have hpa := q1j s14 hT hM hE (by decide)
 rw [q5l] at hpa
 intro w hw
 refine qul _ func29 rfl ntmps29 ?_ hw;refine sR ?_;refine oV ?_;refine nS ?_;refine oI call27 rfl hpa ?_;rintro _ I1 hx1 ⟨vi,vl,vo,va,ns,rfl,hp,hf⟩;refine oV ?_
 have hp : yi I1 vi vl vo va p14 ns := hp
 have hsi := hp.si
 have hsl := hp.sl
 have hso := hp.so
 have hsa := hp.sa
 have hf' : ∀ o ∈ ns,o.c.few 3000 := fun o ho => ⟨Nat.le_trans (hf o ho).1 (by decide),Nat.le_trans (hf o ho).2 (by decide)⟩
 have hlow := qt1 vi vl vo va p14 ns hp hf'
 rw [q5n] at hlow
 iterate 3 refine oV ?_
 refine qq trivial rfl zeroValue26 rfl (fun b1 => ?_);refine qq trivial rfl zeroValue48 rfl (fun b2 => ?_);refine oS sizeOf26 ?_;refine oS sizeOf48 ?_;refine oV ?_;refine nS ?_;refine oA isAgg26 sizeOf26 ?_;refine oI call30 rfl hlow ?_;rintro _ I2 hx2 ⟨wo,wu,os,rfl,ht,hfo⟩;refine oV ?_
 have ht : jp I2 wo wu t14 os := ht
 have hto := ht.so
 have htu := ht.su
 iterate 3 refine oV ?_
 refine qq trivial rfl zeroValue56 rfl (fun b4 => ?_);refine oS sizeOf56 ?_;iterate 2 refine oV ?_
 refine nS ?_;refine oI call63 rfl (q3n 1 (by decide)) ?_;rintro _ I3 hx3 ⟨u1,u2,rfl,k1,k2⟩;refine qw trivial rfl (qg9) rfl (.cons rfl rfl rfl (by repeat constructor) (.cons rfl rfl rfl (by repeat constructor) .nil)) ?_;iterate 2 refine qw trivial rfl (qg9) rfl (.cons rfl rfl rfl (by repeat constructor) (.cons rfl rfl rfl (by repeat constructor) (.cons rfl rfl rfl (by repeat constructor) .nil))) ?_
 refine oB underlying54 sizeOf69 zeroValue69 fun b23 => ?_;refine oB underlying52 sizeOf3 zeroValue3 fun b24 => ?_;refine qfp (b := b23) (.there .here) (fun I4 hx4 hb23 => ?_);refine qfp (b := b24) .here (fun I5 hx5 hb24 => ?_)
 have hl5 := hx4.le.trans hx5.le
 have hq : jp I5 (.slice (some ⟨b23, 0, none⟩) 3 3) (.slice (some ⟨b24, 0, none⟩) 2 2) t14 [⟨qdx (mkRat 1 1), u1, u2⟩, qgq 2 0 1 0, qgq 4 0 2 0] := jp.of (t := t14) [⟨qdx (mkRat 1 1), u1, u2⟩, qgq 2 0 1 0, qgq 4 0 2 0] (hx5.le _ _ hb23) hb24 (fun o ho => by
   simp only [List.mem_cons,List.not_mem_nil,or_false] at ho
   rcases ho with rfl | rfl | rfl
   · exact ⟨k1.le hl5,k2.le hl5⟩
   · exact qtt _ _ _ _ _
   · exact qtt _ _ _ _ _) rfl (Nat.le_of_ble_eq_true rfl) (Nat.le_of_ble_eq_true rfl)
 have ht5 := ht.le (hx3.le.trans hl5)
 have hwt := q5b t14 wo wu os ht5 (qmy qmx)
 have hri := qk6 t14 wo wu os ht5 (qmy qmx)
 have hsm := qt5 wo wu _ _ t14 t14 os _ ht5 hq
 rw [w14] at hwt hri
 refine qw trivial rfl (qdb) rfl (.cons rfl rfl rfl (by repeat constructor) (.cons rfl (by rfl) (by rfl) (by repeat constructor) (.cons rfl (by rfl) (by rfl) (by repeat constructor) .nil))) ?_;refine qq trivial rfl zeroValue56 rfl (fun b7 => ?_);refine oS sizeOf56 ?_;refine nS ?_;iterate 2 refine oV ?_
 refine' oY (fun hb28 => ?_) ?_;rotate_left
 ·
  iterate 2 refine gV hb28 ?_
  refine oN ?_;exact qa rfl
 refine' oY (fun hb32 => ?_) ?_;rotate_left
 ·
  iterate 2 refine gV hb32 ?_
  refine oN ?_;exact qa rfl
 refine' oY (fun hb36 => ?_) ?_;rotate_left
 ·
  have fb36 := hb36
  try simp only [bl] at fb36
  iterate 2 refine qcb (wS rfl rfl hb36) rfl isAgg56 sizeOf56 rfl (by repeat constructor) (by repeat constructor) ?_
  refine yd (wS rfl rfl hb36) rfl call32 rfl hsm ?_;refine oN ?_;exact qa rfl
 refine' oY (fun hb41 => ?_) ?_;rotate_left
 ·
  have fb41 := hb41
  try simp only [bl] at fb41
  refine qcb (wS rfl rfl hb41) rfl isAgg56 sizeOf56 rfl (by repeat constructor) (by repeat constructor) ?_;refine qi0 (wS rfl rfl hb41) rfl call37 rfl hwt ?_;rintro _ I6 hx6 hs6;refine qnq (wS rfl rfl hb41) rfl underlying52 sizeOf3 zeroValue3 (by decide) (by decide) rfl (by repeat first | exact rfl | constructor) rfl (fun b44 => ?_);refine qfp .here (fun I7 hx7 hb44 => ?_)
  have hri := qk6 t14 wo wu os (ht5.le (hx6.le.trans hx7.le)) (qmy qmx)
  rw [w14] at hri
  refine yd (wS rfl rfl hb41) rfl call36 rfl (q36 _ _ [1,1,2,3] (hs6.le hx7.le) (Slc.of_box (sz := 1) (xss := nss [1,1,2,3]) (c := 4) hb44 (qf7 _) (by decide) (by decide))) ?_;refine oN ?_;exact qun rfl (fun _ h => (h.sort (by repeat constructor)).fewer ((hx6.le).trans hx7.le))
 refine' oY (fun hb47 => ?_) ?_;rotate_left
 ·
  have fb47 := hb47
  try simp only [bl] at fb47
  refine qcb (wS rfl rfl hb47) rfl isAgg56 sizeOf56 rfl (by repeat constructor) (by repeat constructor) ?_;refine yd (wS rfl rfl hb47) rfl call34 rfl hri ?_;refine oN ?_;exact qa rfl
 refine oV ?_;refine nE ?_;refine ret1 rfl rfl ?_;exact leaf (hx1.trans (hx2.trans (hx3.trans (hx4.trans hx5 (Nat.le_refl _)) (Nat.le_refl _)) (Nat.le_refl _)) (Nat.le_refl _)) (List.nil_sublist _) (congrArg Value.bool (by simp [qt2]))
theorem q5p (vi vl vo va : Value) (p : qv) (ns : List qd) {I : Hp} (hp : yi I vi vl vo va p ns) (hT : Tabs I) (hM : Mx I) (hE : Errs I) : Fun prog 10 [.agg #[vi,vl,vo,va]] I [] (fun v _ _ => v = .bool true) := by
 have hsi := hp.si
 have hsl := hp.sl
 have hso := hp.so
 have hsa := hp.sa
 intro w hw
 refine qn _ func10 rfl ntmps10 rfl ?_ hw;refine sR ?_;refine vh trivial rfl rfl rfl (fun b1 => ?_);refine oV ?_;refine nS ?_;refine oQ call29 rfl (q5o hT hM hE) ?_;refine oV ?_;refine nS ?_;refine oA isAgg26 sizeOf26 ?_;refine oQ call16 rfl (q37 vi vl vo va p ns 40 hp) ?_;refine oV ?_;refine nU ?_;iterate 2 refine oV ?_
 refine nT ?_;refine cC rfl (fun h1 => ?_) (fun h1 => ?_)
 ·
  have f1 := h1;try simp only [bl] at f1
  refine sR ?_;iterate 2 refine oV ?_
  refine nF ?_;refine ret1 rfl rfl ?_;exact qe rfl
 have f1 := h1;try simp only [bl] at f1
 obtain ⟨g1,g2,g3⟩ := q5j (by simpa using h1) hp.eq
 refine kS ?_;refine oA isAgg26 sizeOf26 ?_;refine oI call30 rfl (qt1 vi vl vo va p ns hp g1) ?_;rintro _ I1 hx1 ⟨wo,wu,os,rfl,ht,hf⟩;refine oV ?_
 have hto := ht.so
 have htu := ht.su
 iterate 3 refine oV ?_
 refine qq trivial rfl zeroValue56 rfl (fun b5 => ?_);refine oS sizeOf56 ?_;iterate 2 refine oV ?_
 refine nS ?_;refine oA isAgg26 sizeOf26 ?_;refine oI call31 rfl (q5a vi vl vo va p ns (hp.le hx1.le) g1) ?_;rintro _ I2 hx2 ⟨wo2,wu2,os2,rfl,ht2,hf2⟩;refine oV ?_
 have hto2 := ht2.so
 have htu2 := ht2.su
 iterate 3 refine oV ?_
 refine qq trivial rfl zeroValue56 rfl (fun b8 => ?_);refine oS sizeOf56 ?_;iterate 2 refine oV ?_
 refine nS ?_;refine oV ?_;refine' oY (fun hb30 => ?_) ?_;rotate_left
 ·
  have fb30 := hb30
  try simp only [bl] at fb30
  iterate 2 refine qcb (wS rfl rfl hb30) rfl isAgg56 sizeOf56 rfl (by repeat constructor) (by repeat constructor) ?_
  refine yd (wS rfl rfl hb30) rfl call32 rfl (qt5 wo wu wo2 wu2 _ _ os os2 (ht.le hx2.le) ht2) ?_;refine oN ?_;exact qa rfl
 refine' oY (fun hb35 => ?_) ?_;rotate_left
 ·
  iterate 3 refine gV hb35 ?_
  refine oN ?_;exact qa rfl
 refine' oY (fun hb40 => ?_) ?_;rotate_left
 ·
  iterate 3 refine gV hb40 ?_
  refine oN ?_;exact qa rfl
 refine oV ?_;refine nE ?_;refine ret1 rfl rfl ?_;exact leaf (hx1.trans hx2 (Nat.le_refl _)) (List.nil_sublist _) (congrArg Value.bool (by simp [qt2]))
end Go.Proofs.YtfcmhcaggdakbaaGreatDoor
namespace Go.Tw
open Go Go.RowKit Go.ChangeShapes Go.WideShapes Go.ChangeAt Go.Deep
def Tr {H : Type} (enc : TypeId × Value → H) (P : Program) (W : World) (t : TypeId) (cs : List Value) : Prop := ∃ n x,DataW.trod enc P W 0 (fun _ => true) true n t cs = some x
section
variable {base : Nat} {H : Type} {enc : TypeId × Value → H} {P : Program} {W : World} {t e : TypeId} {v : Value} {cs : List Value} {d : DataW H} {ps : List MemPlace}
theorem q5q {fs : Array Field} (ht : P.underlying t = some (.struct fs)) (hval : Value.okWide P W .any base t v) (h : DataW.Trod enc P W 0 (fun _ => true) true t v d ps) : ∃ cs : List Value,v = .agg cs.toArray ∧ Tr enc P W t cs := by
 obtain ⟨cs,rfl,_⟩ := okWide_struct ht hval
 obtain ⟨n,h⟩ := h
 exact ⟨cs.toList,by simp,n,_,h⟩
theorem qff {k : IntKind} (ht : P.underlying t = some (.int k)) (h : Tr enc P W t [v]) : ∃ z,v = .int k z ∧ (Lit.int k z).wf = true := by
 obtain ⟨n,x,h⟩ := h
 obtain ⟨z,h1,_,h2⟩ := DataW.trod_int ht h
 exact ⟨z,(List.cons.inj h1).1,h2⟩
theorem q5r (ht : P.underlying t = some .bool) (h : Tr enc P W t [v]) : ∃ b,v = .bool b := by
 obtain ⟨n,x,h⟩ := h
 obtain ⟨z,h1,_⟩ := DataW.trod_bool ht h
 exact ⟨z,(List.cons.inj h1).1⟩
theorem qmz (ht : P.underlying t = some .string) (h : Tr enc P W t [v]) : ∃ s : ByteArray,v = .string s ∧ s.size ≤ maxLen := by
 obtain ⟨n,x,h⟩ := h
 obtain ⟨z,h1,_,h2⟩ := DataW.trod_string ht h
 exact ⟨z,(List.cons.inj h1).1,h2⟩
theorem qio {fs : Array Field} (ht : P.underlying t = some (.struct fs)) (h : Tr enc P W t cs) : cs.length = P.cellsOf t ∧ ∀ (i : Nat) (f : Field),fs[i]? = some f → Tr enc P W f.type ((cs.drop f.offset).take (P.cellsOf f.type)) := by
 obtain ⟨n,x,h⟩ := h
 obtain ⟨xs,m,_,_,hl,hx,hf⟩ := DataW.trod_struct ht h
 refine ⟨hl,fun i f hi => ?_⟩
 have h1 := hf i f hi
 have hlt : i < xs.length := by rw [hx]; exact (Array.getElem?_eq_some_iff.1 hi).1
 rw [List.getElem?_eq_getElem hlt] at h1
 exact ⟨m,_,h1⟩
theorem qip {sz : Nat} (ht : P.underlying t = some (.slice e)) (hsz : P.cellsOf e = sz) (hpos : 0 < sz) (h : Tr enc P W t [v]) : ∃ xss : List (List Value),Slc (World.hp W) sz v xss ∧ ∀ c ∈ xss,Tr enc P W e c := by
 obtain ⟨n,x,h⟩ := h
 rcases open_slice ht h with ⟨h1,_⟩ | ⟨a,len,cap,m,n',D,Pl,h1,hb,hl,hc,hm,_,hx⟩
 · obtain rfl := (List.cons.inj h1).1
   exact ⟨[],Slc.nil _ _,fun c hc => by cases hc⟩
 · obtain rfl := (List.cons.inj h1).1
   subst hsz
   simp only [if_true] at hm
   subst hm
   obtain ⟨G,hG⟩ := choose_lt (α := List Value) (p := fun i cs' => W.cells? 0 (a.add (i * P.cellsOf e)) (P.cellsOf e) = some cs' ∧ DataW.trod enc P W 0 (fun _ => true) true n' e cs' = some (D i,Pl i)) hx
   have hcell : ∀ i, i < m → (G i).length = P.cellsOf e ∧ ∀ k, k < P.cellsOf e → W.cell? (a.add (i * P.cellsOf e + k)) = (G i)[k]? := fun i hi => by
     obtain ⟨h2,h3,h4⟩ := World.cells?_some (hG i hi).1
     refine ⟨h3,fun k hk => ?_⟩
     rw [← h4 k hk,add_add]
   refine ⟨(List.range len).map G,?_,fun c hc => ?_⟩
   · have hlen : ((List.range len).map G).length = len := by simp
     have hlens : ∀ c ∈ (List.range len).map G, c.length = P.cellsOf e := fun c hc => by
       obtain ⟨i,hi,rfl⟩ := List.mem_map.1 hc
       exact (hcell i (by have := List.mem_range.1 hi; omega)).1
     by_cases h0 : m = 0
     · have hl0 : len = 0 := by omega
       subst h0
       subst hl0
       exact Slc.nilA _ _ _
     · have hsp : a.spot = none := by
         have h2 := (hcell 0 (by omega)).2 0 hpos
         have h3 : 0 < (G 0).length := by rw [(hcell 0 (by omega)).1]; exact hpos
         rw [List.getElem?_eq_getElem h3] at h2
         unfold World.cell? at h2
         split at h2
         · split at h2
           · cases h2
           · rename_i hs
             have hz : a.add (0 * P.cellsOf e + 0) = a := by rw [Nat.zero_mul]; unfold Addr.add; simp
             rw [hz] at hs
             cases hsp : a.spot with
             | none => rfl
             | some s => rw [hsp] at hs; simp at hs
         · cases h2
       obtain ⟨b,off,s⟩ := a
       change s = none at hsp
       subst hsp
       refine ⟨.inr ⟨b,off,m,by rw [hlen],by rw [hlen]; exact hl⟩,fun j c hj k u hk => ?_,hlens,by rw [hlen]; omega⟩
       rw [List.getElem?_map] at hj
       have hjl : j < len := by
         by_cases hjl : j < len
         · exact hjl
         · rw [List.getElem?_eq_none (by simp; omega)] at hj; cases hj
       rw [List.getElem?_range hjl] at hj
       cases hj
       have hkl := (List.getElem?_eq_some_iff.1 hk).1
       rw [(hcell j (by omega)).1] at hkl
       have h2 := (hcell j (by omega)).2 k hkl
       rw [hk,add_none] at h2
       rw [qnf]
       simp only [slcB,slcO]
       rw [Nat.add_assoc]
       exact h2
   · obtain ⟨i, hi, rfl⟩ := List.mem_map.1 hc
     exact ⟨n',_,(hG i (by have := List.mem_range.1 hi; omega)).2⟩
theorem q5s {k : IntKind} {xss : List (List Value)} {sz : Nat} (ht : P.underlying t = some (.int k)) (hs : Slc (World.hp W) 1 v xss) (h : ∀ c ∈ xss,Tr enc P W t c) : ∃ zs : List Int,xss = zs.map (fun z => [.int k z]) ∧ ∀ z ∈ zs,(Lit.int k z).wf = true := by
 have key : ∀ (l : List (List Value)),(∀ c ∈ l,c.length = 1 ∧ Tr enc P W t c) → ∃ zs : List Int,l = zs.map (fun z => [.int k z]) ∧ ∀ z ∈ zs,(Lit.int k z).wf = true := by
   intro l
   induction l with
   | nil => exact fun _ => ⟨[],rfl,fun z hz => by cases hz⟩
   | cons c l ih =>
     intro hl
     obtain ⟨zs,h1,h2⟩ := ih fun c hc => hl c (List.mem_cons_of_mem _ hc)
     obtain ⟨h3,h4⟩ := hl c List.mem_cons_self
     match c,h3 with
     | [x], _ =>
       obtain ⟨z,rfl,h5⟩ := qff ht h4
       exact ⟨z :: zs, by rw [h1]; rfl, fun y hy => by
         rcases List.mem_cons.1 hy with rfl | hy
         · exact h5
         · exact h2 y hy⟩
 exact key xss fun c hc => ⟨hs.lens c hc,h c hc⟩
theorem qm0 {α : Type} {f : α → List Value} {p : α → Prop} {xss : List (List Value)} (h : ∀ c ∈ xss,∃ a,c = f a ∧ p a) : ∃ zs : List α,xss = zs.map f ∧ ∀ a ∈ zs,p a := by
 induction xss with
 | nil => exact ⟨[],rfl,fun a h => by cases h⟩
 | cons c l ih =>
   obtain ⟨zs,h1,h2⟩ := ih fun c hc => h c (List.mem_cons_of_mem _ hc)
   obtain ⟨a,ha,hp⟩ := h c List.mem_cons_self
   exact ⟨a :: zs, by rw [ha, h1]; rfl, fun b hb => by
     rcases List.mem_cons.1 hb with rfl | hb
     · exact hp
     · exact h2 b hb⟩
end
end Go.Tw
namespace Go.Proofs.YtfcmhcaggdakbaaGreatDoor
open Go Go.Tw Go.ChangeShapes Go.WideShapes Go.ChangeAt
set_option maxRecDepth 100000
section
variable {base : Nat} {H : Type} {enc : TypeId × Value → H} {W : World} {v : Value} {cs : List Value} {d : DataW H} {ps : List MemPlace}
theorem qua : prog.cellsOf 3 = 1 := by kernel_rfl
theorem q5t : prog.cellsOf 4 = 1 := by kernel_rfl
theorem qm1 : prog.cellsOf 9 = 1 := by kernel_rfl
theorem q5u : prog.cellsOf 134 = 1 := by kernel_rfl
theorem q5v : prog.cellsOf 33 = 1 := by kernel_rfl
theorem qub : prog.cellsOf 35 = 3 := by kernel_rfl
theorem quc : prog.cellsOf 37 = 8 := by kernel_rfl
theorem qud : prog.cellsOf 39 = 2 := by kernel_rfl
theorem q5w : prog.cellsOf 26 = 4 := by kernel_rfl
theorem q5x : prog.cellsOf 22 = 1 := by kernel_rfl
theorem q5y : prog.cellsOf 23 = 1 := by kernel_rfl
theorem q5z : prog.cellsOf 24 = 1 := by kernel_rfl
theorem of2 {l : List Value} (h : l.length = 2) : ∃ a b,l = [a,b] := by
 match l,h with
 | [a,b],_ => exact ⟨a,b,rfl⟩
theorem of3 {l : List Value} (h : l.length = 3) : ∃ a b c,l = [a,b,c] := by
 match l,h with
 | [a,b,c],_ => exact ⟨a,b,c,rfl⟩
theorem of4 {l : List Value} (h : l.length = 4) : ∃ a b c d,l = [a,b,c,d] := by
 match l,h with
 | [a,b,c,d],_ => exact ⟨a,b,c,d,rfl⟩
theorem of8 {l : List Value} (h : l.length = 8) : ∃ a b c d e f g i,l = [a,b,c,d,e,f,g,i] := by
 match l,h with
 | [a,b,c,d,e,f,g,i],_ => exact ⟨a,b,c,d,e,f,g,i,rfl⟩
theorem que (h : Tr enc prog W 33 [v]) : ∃ O,Ws (World.hp W) v O := by
 obtain ⟨xss,h1,h2⟩ := qip underlying33 q5u (by decide) h
 obtain ⟨zs,rfl,h3⟩ := q5s (sz := 1) underlying134 h1 h2
 refine ⟨zs.map Int.toNat,⟨?_,fun x hx => ?_⟩⟩
 · have e : wcs (zs.map Int.toNat) = zs.map (fun z => [Value.int .u32 z]) := by
     unfold wcs
     rw [List.map_map]
     refine List.map_congr_left fun z hz => ?_
     have := bounds_u32 (h3 z hz)
     show [Value.int .u32 ((z.toNat : Nat) : Int)] = _
     rw [Int.toNat_of_nonneg this.1]
   rw [e]; exact h1
 · obtain ⟨z, hz, rfl⟩ := List.mem_map.1 hx
   have := bounds_u32 (h3 z hz)
   omega
theorem q50 (h : Tr enc prog W 35 cs) : ∃ s n d b c,cs = [.bool s,b,c] ∧ Ws (World.hp W) b n ∧ Ws (World.hp W) c d := by
 obtain ⟨h1,h2⟩ := qio underlying35 h
 obtain ⟨a,b,c,rfl⟩ := of3 (by rw [h1]; exact qub)
 have k0 := h2 0 _ rfl
 have k1 := h2 1 _ rfl
 have k2 := h2 2 _ rfl
 change Tr enc prog W 4 (List.take (prog.cellsOf 4) [a,b,c]) at k0
 change Tr enc prog W 33 (List.take (prog.cellsOf 33) [b,c]) at k1
 change Tr enc prog W 33 (List.take (prog.cellsOf 33) [c]) at k2
 rw [q5t] at k0
 rw [q5v] at k1 k2
 obtain ⟨s,rfl⟩ := q5r underlying4 k0
 obtain ⟨n,hn⟩ := que k1
 obtain ⟨dd,hd⟩ := que k2
 exact ⟨s,n,dd,b,c,rfl,hn,hd⟩
theorem q51 (h : Tr enc prog W 37 cs) : ∃ o : qd,cs = o.cells ∧ o.ok (World.hp W) := by
 obtain ⟨h1,h2⟩ := qio underlying37 h
 obtain ⟨a,b,c,d,e,f,g,i,rfl⟩ := of8 (by rw [h1]; exact quc)
 have k0 := h2 0 _ rfl
 have k1 := h2 1 _ rfl
 have k2 := h2 2 _ rfl
 have k3 := h2 3 _ rfl
 have k4 := h2 4 _ rfl
 have k5 := h2 5 _ rfl
 change Tr enc prog W 3 (List.take (prog.cellsOf 3) [a,b,c,d,e,f,g,i]) at k0
 change Tr enc prog W 3 (List.take (prog.cellsOf 3) [b,c,d,e,f,g,i]) at k1
 change Tr enc prog W 3 (List.take (prog.cellsOf 3) [c,d,e,f,g,i]) at k2
 change Tr enc prog W 3 (List.take (prog.cellsOf 3) [d,e,f,g,i]) at k3
 change Tr enc prog W 9 (List.take (prog.cellsOf 9) [e,f,g,i]) at k4
 change Tr enc prog W 35 (List.take (prog.cellsOf 35) [f,g,i]) at k5
 rw [qua] at k0 k1 k2 k3
 rw [qm1] at k4
 rw [qub] at k5
 obtain ⟨z0,rfl,b0⟩ := qff underlying3 k0
 obtain ⟨z1,rfl,b1⟩ := qff underlying3 k1
 obtain ⟨z2,rfl,b2⟩ := qff underlying3 k2
 obtain ⟨z3,rfl,b3⟩ := qff underlying3 k3
 obtain ⟨s,rfl,_⟩ := qmz underlying9 k4
 obtain ⟨ng,n,dd,vb,vc,hx,hn,hd⟩ := q50 k5
 obtain ⟨rfl,h5⟩ := List.cons.inj hx
 obtain ⟨rfl,h6⟩ := List.cons.inj h5
 obtain ⟨rfl,_⟩ := List.cons.inj h6
 exact ⟨⟨⟨z0,z1,z2,z3,s,ng,n,dd⟩,g,i⟩,rfl,hn,hd⟩
theorem q52 (h : Tr enc prog W 39 cs) : ∃ o : LetC,cs = o.cells ∧ True := by
 obtain ⟨h1,h2⟩ := qio underlying39 h
 obtain ⟨a,b,rfl⟩ := of2 (by rw [h1]; exact qud)
 have k0 := h2 0 _ rfl
 have k1 := h2 1 _ rfl
 change Tr enc prog W 9 (List.take (prog.cellsOf 9) [a,b]) at k0
 change Tr enc prog W 3 (List.take (prog.cellsOf 3) [b]) at k1
 rw [qm1] at k0
 rw [qua] at k1
 obtain ⟨s,rfl,_⟩ := qmz underlying9 k0
 obtain ⟨z,rfl,_⟩ := qff underlying3 k1
 exact ⟨⟨s,z⟩,rfl,trivial⟩
theorem quf (h : Tr enc prog W 22 [v]) : ∃ l : List ByteArray,Slc (World.hp W) 1 v (scs l) := by
 obtain ⟨xss,s1,s2⟩ := qip (sz := 1) underlying22 qm1 (by decide) h
 obtain ⟨zs, rfl, _⟩ := qm0 (f := fun s : ByteArray => [Value.string s]) (p := fun _ => True) fun c hc => by
   have hl := s1.lens c hc
   match c,hl with
   | [x], _ =>
     obtain ⟨s,rfl,_⟩ := qmz underlying9 (s2 _ hc)
     exact ⟨s,rfl,trivial⟩
 exact ⟨zs,s1⟩
theorem q53 (hval : Value.okWide prog W .any base 26 v) (h : DataW.Trod enc prog W 0 (fun _ => true) true 26 v d ps) : ∃ (p : qv) (vi vl vo va : Value) (ns : List qd),v = .agg #[vi,vl,vo,va] ∧ yi (World.hp W) vi vl vo va p ns := by
 obtain ⟨cs,rfl,hh⟩ := q5q underlying26 hval h
 obtain ⟨h1,h2⟩ := qio underlying26 hh
 obtain ⟨a,b,c,e,rfl⟩ := of4 (by rw [h1]; exact q5w)
 have k0 := h2 0 _ rfl
 have k1 := h2 1 _ rfl
 have k2 := h2 2 _ rfl
 have k3 := h2 3 _ rfl
 change Tr enc prog W 22 (List.take (prog.cellsOf 22) [a,b,c,e]) at k0
 change Tr enc prog W 23 (List.take (prog.cellsOf 23) [b,c,e]) at k1
 change Tr enc prog W 22 (List.take (prog.cellsOf 22) [c,e]) at k2
 change Tr enc prog W 24 (List.take (prog.cellsOf 24) [e]) at k3
 rw [q5x] at k0 k2
 rw [q5y] at k1
 rw [q5z] at k3
 obtain ⟨li,gi⟩ := quf k0
 obtain ⟨lo,go⟩ := quf k2
 obtain ⟨xss,s1,s2⟩ := qip (sz := 2) underlying23 qud (by decide) k1
 obtain ⟨ls,rfl,_⟩ := qm0 (f := LetC.cells) (p := fun _ => True) fun c hc => q52 (s2 c hc)
 obtain ⟨yss,u1,u2⟩ := qip (sz := 8) underlying24 quc (by decide) k3
 obtain ⟨ns,rfl,u3⟩ := qm0 (f := qd.cells) (p := fun o => o.ok (World.hp W)) fun c hc => q51 (u2 c hc)
 exact ⟨⟨li,ls,lo,ns.map qd.c⟩,a,b,c,e,ns,rfl,gi,s1,go,u1,u3,rfl⟩
end
end Go.Proofs.YtfcmhcaggdakbaaGreatDoor
