/-
  TapeLowers, part 4: the texts Read4, Read5, Read6, Read7, Read8, Read9, Read10, Parse11, Tree10, LexCat, LexCat2, Show1, Show2, Show3, Show5, Pcs, Print, Node, Map, Map2, Value, Value2, Ref1, Ref2, Ref3, Ref4, Ref5, Ref7 as one.
-/
import Derived.Test.YtfcmhcaggdakbaaGreatDoorQTapeLowersC
import Derived.Laws.Entries
import Derived.MapKept
open Go.Proofs.Tryz
set_option linter.unusedVariables false
set_option linter.unusedSimpArgs false
set_option linter.unnecessarySimpa false
set_option maxHeartbeats 1000000
namespace Go.Proofs.YtfcmhcaggdakbaaGreatDoor
open Go Go.Tw
abbrev nmR (u : Value) (l : List ByteArray) : Tw.Item := .row u 9 1 l.length (scs l).flatten
theorem qq4 (l : List ByteArray) (s : ByteArray) : (scs (l ++ [s])).flatten = (scs l).flatten ++ [.string s] := by simp [scs]
def qh7 (L : List Tok) (i' : Nat) (ok : Bool) (l : List ByteArray) : NOut → Prop
 | .bad r => ok = false ∧ L.drop i' = r ∧ i' ≤ L.length
 | .ok m r => ok = true ∧ l = m ∧ L.drop i' = r ∧ i' ≤ L.length
theorem zm {i : Nat} {b : Bool} (h : b = true) : adv b i = i + 1 := by rw [h]; rfl
theorem zn {i : Nat} {b : Bool} (h : b = false) : adv b i = i := by rw [h]; rfl
theorem yq {L : List Tok} {i : Nat} (h : i < L.length) : L.drop i = tkAt L i :: L.drop (i + 1) := by rw [List.drop_eq_getElem_cons h,qcr (List.getElem?_eq_getElem h)]
theorem q0k {L : List Tok} {i : Nat} (h : hdN (L.drop i) = false) : q9 (L.drop i) = .bad (L.drop i) := qyn h
theorem qle {L : List Tok} {i : Nat} (h : hdN (L.drop i) = true) : yf (tkAt L i) = true := by
 rw [yq (qb2 h)] at h; exact h
theorem q0l {L : List Tok} {i : Nat} (h : hdN (L.drop i) = true) (hc : hdT (L.drop (i + 1)) 2 qab = true) : q9 (L.drop i) = (q9 (L.drop (i + 2))).cons (tkAt L i).text := by
 rw [yq (qb2 h),qyo (qle h) hc,List.drop_drop]
theorem q0m {L : List Tok} {i : Nat} (h : hdN (L.drop i) = true) (hc : hdT (L.drop (i + 1)) 2 qab = false) : q9 (L.drop i) = if hdT (L.drop (i + 1)) 2 ye then .ok [(tkAt L i).text] (L.drop (i + 2)) else .bad (L.drop (i + 1)) := by
 rw [yq (qb2 h),qyp (qle h) hc,List.drop_drop]
theorem qq5 (b i : Nat) (vall vs vi vl vo va : Value) (L : List Tok) {I : Hp} (hL : Slc I 4 vall (L.map Tok.cells)) (hn : L.length ≤ 10000) (hs : zg L) (hi : i ≤ L.length) : Fun prog 104 [.pointer (some ⟨b, 0, none⟩)] I [rdB b vall i vs vi vl vo va]
   (fun v I' B' => I = I' ∧ ∃ u ok i' u' l,v = .tuple #[u,.bool ok] ∧ B' = [rdB b vall i' vs vi vl vo va,nmR u' l] ∧ qh7 L i' ok l (q9 (L.drop i)) ∧ (ok = true → u' = u ∧ l.length ≤ L.length) ∧ u.cells = #[u] ∧ u.oneCell' = true) := by
 intro w hw
 refine qn _ func104 rfl ntmps104 rfl ?_ hw;refine sR ?_;iterate 2 refine oV ?_
 refine nS ?_;refine oV ?_;refine oN (tC (cB ?_));refine qt (ι := Nat × List ByteArray × Value) [0] (.cons rfl .nil) (fun x => L.length - x.1) (fun x E0 => (4,x.2.2) :: E0) (fun x => St w (jb [rdB b vall i vs vi vl vo va]) I [rdB b vall x.1 vs vi vl vo va,nmR x.2.2 x.2.1]) (fun x => x.1 ≤ L.length ∧ x.2.1.length ≤ x.1 ∧ q9 (L.drop i) = (q9 (L.drop x.1)).after x.2.1) ((i,[],.slice none 0 0)) (sC rfl (sC rfl sN)) (fun _ h => (h.nilRow 9 1).sort (by repeat constructor)) (⟨hi,Nat.zero_le _,(NOut.after_nil _).symm⟩) ?_;rintro ⟨j,out,u⟩ ⟨hj,hout,hF⟩
 try dsimp only
 simp only at hj hout hF
 refine cB (sR ?_);refine oV ?_;refine oC trivial rfl call139 rfl (qkp b j vall vs vi vl vo va L hL (by omega) hs) (by repeat constructor) ?_;rintro _ _ _ hx1 ⟨rfl,rfl,rfl⟩;iterate 5 refine oV ?_
 refine nU ?_;iterate 2 refine oV ?_
 refine nT ?_;refine cC rfl (fun h1 => ?_) (fun h1 => ?_)
 ·
  have f1 := h1;try simp only [bl] at f1
  have hN : hdN (L.drop j) = false := by simpa using f1
  refine sR ?_;iterate 2 refine oV ?_
  refine oN (tC (cT (tR (qb (tR (qb ?_))))));refine ret2 rfl rfl rfl ?_;exact fun w' hw' => ⟨I,[rdB b vall j vs vi vl vo va,nmR u out],(by rw [zn hN] at hw'; exact hw'.sort (by repeat constructor)),Ext.refl _ _,rfl,_,_,j,u,out,rfl,rfl,by rw [hF,q0k hN]; exact ⟨rfl,rfl,hj⟩,fun h => (by cases h),rfl,rfl⟩
 have f1 := h1;try simp only [bl] at f1
 have hN : hdN (L.drop j) = true := by simpa using f1
 rw [zm hN,if_pos hN]
 have hlt := qb2 hN
 refine kS ?_;iterate 2 refine oV ?_
 refine oB underlying22 sizeOf9 zeroValue9 fun b16 => ?_;refine oD underlying22 qjr fun v17 => ?_;refine oV ?_;refine nS ?_;refine oV ?_;refine oC trivial rfl call140 rfl (qcs b (j + 1) vall vs vi vl vo va qab L hL (by omega)) (by repeat constructor) ?_;rintro _ _ _ hx2 ⟨rfl,rfl,rfl⟩;refine oV ?_;refine nT ?_;refine cC rfl (fun h2 => ?_) (fun h2 => ?_)
 ·
  have f2 := h2;try simp only [bl] at f2
  have hC : hdT (L.drop (j + 1)) 2 qab = false := by simpa using f2
  rw [zn hC]
  refine sR ?_;refine j6 (u := v17) (by repeat constructor) (fun hcv => ?_);iterate 2 refine oV ?_
  refine oC trivial rfl call140 rfl (qcs b (j + 1) vall vs vi vl vo va ye L hL (by omega)) (by repeat constructor) ?_;rintro _ _ _ hx3 ⟨rfl,rfl,rfl⟩;iterate 2 refine oV ?_
  refine oN (tC (cT (qb (tR (qb ?_)))));refine ret2 rfl rfl rfl ?_;refine fun w' hw' => ⟨I,[rdB b vall (adv (hdT (L.drop (j + 1)) 2 ye) (j + 1)) vs vi vl vo va,nmR v17 (out ++ [(tkAt L j).text])],(by unfold nmR; rw [qq4,List.length_append]; exact hw'.sort (by repeat constructor)),Ext.refl _ _,rfl,_,_,_,_,_,rfl,rfl,?_,fun _ => ⟨rfl,by rw [List.length_append]; show out.length + 1 ≤ _; omega⟩,hcv⟩
  rw [hF,q0m hN hC]
  cases hS : hdT (L.drop (j + 1)) 2 ye with
  | true => exact ⟨rfl,rfl,rfl,jn hS⟩
  | false => exact ⟨rfl,rfl,(by show j + 1 ≤ L.length; omega)⟩
 have f2 := h2;try simp only [bl] at f2
 have hC : hdT (L.drop (j + 1)) 2 qab = true := by simpa using f2
 rw [zm hC]
 have hlt2 := jn hC
 refine cK (qg ?_);exact ql (j + 2,out ++ [(tkAt L j).text],v17) (sC rfl (sC rfl sN)) (fun _ h => by unfold nmR; rw [qq4,List.length_append]; exact h.sort (by repeat constructor)) (by show L.length - (j + 2) < L.length - j; omega) ⟨by show j + 2 ≤ L.length; omega,by rw [List.length_append]; show out.length + 1 ≤ j + 2; omega,by rw [hF,q0l hN hC,NOut.after_cons]⟩
theorem qq6 (b i : Nat) (vall vs vi vl vo va : Value) (ns : List qd) (K : List Value) (L : List Tok) {I : Hp} (hM : Mx I) (hL : Slc I 4 vall (L.map Tok.cells)) (hn : L.length ≤ 10000) (hs : zg L) (hto : yz L) (hK : K.length ≤ 90000) (hns : ns.length ≤ 90000) :
   Fun prog 195 [.pointer (some ⟨b,0,none⟩)] I [rdB b vall i vs vi vl vo va,skR vs K,ndR va ns]
   (fun v I' B' => (v = .bool false ∧ I = I' ∧ B' = [rdB b vall i vs vi vl vo va, skR vs K, ndR va ns] ∧ (i < L.length → yy (tkAt L i) = false)) ∨
     (v = .bool true ∧ i < L.length ∧ yy (tkAt L i) = true ∧ ∃ vs' va' c,c.ok I' ∧ c.c = qar (tkAt L i) ∧ B' = [rdB b vall (i + 1) vs' vi vl vo va',skR vs' (K ++ [odI ns.length]),ndR va' (ns ++ [c])])) := by
 have hnode : ∀ (c : qd) (vs va : Value) {I1 : Hp} (hc : c.ok I1) (j : Nat), Fun prog 200 [.pointer (some ⟨b, 0, none⟩), ndV c] I1 [rdB b vall j vs vi vl vo va, skR vs K, ndR va ns]
   (fun v I' B' => I1 = I' ∧ v = .tuple #[] ∧ ∃ vs' va',B' = [rdB b vall j vs' vi vl vo va',skR vs' (K ++ [odI ns.length]),ndR va' (ns ++ [c])]) := fun c vs va {I1} hc j => qhv b j vall vs vi vl vo va c ns K hc hK hns
 intro w hw
 refine qn _ func195 rfl ntmps195 rfl ?_ hw;refine sR ?_;refine oV ?_;refine nU ?_;refine oV ?_;refine oC trivial rfl call139 rfl (qkp b i vall vs vi vl vo va L hL (by omega) hs) (by repeat constructor) ?_;rintro _ _ _ hx1 ⟨rfl,rfl,rfl⟩;iterate 5 refine oV ?_
 refine nS ?_;refine oV ?_;refine nT ?_;refine cC rfl (fun h1 => ?_) (fun h1 => ?_)
 ·
  have f1 := h1;try simp only [bl] at f1
  have hN : hdN (L.drop i) = true := f1
  rw [zm hN,if_pos hN]
  have hlt := qb2 hN
  have hnm := qle hN
  refine sR ?_;iterate 2 refine oV ?_
  refine qw trivial rfl (qd8) rfl (.cons rfl rfl rfl (by repeat constructor) (.cons rfl rfl rfl (by repeat constructor) .nil)) ?_;refine oC trivial rfl call200 rfl (hnode ⟨refN (tkAt L i).text,.slice none 0 0,.slice none 0 0⟩ vs va ⟨Ws.nil _,Ws.nil _⟩ (i + 1)) (by repeat constructor) ?_;rintro _ _ _ hx2 ⟨rfl,rfl,vs',va',rfl⟩;refine nS ?_;refine oV ?_;refine nF ?_;refine ret1 rfl rfl ?_;refine fun w' hw' => ⟨I,[rdB b vall (i + 1) vs' vi vl vo va',skR vs' (K ++ [odI ns.length]),ndR va' (ns ++ [⟨refN (tkAt L i).text,.slice none 0 0,.slice none 0 0⟩])],hw'.sort (by repeat constructor),Ext.refl _ _,.inr ⟨rfl,hlt,?_,vs',va',_,⟨Ws.nil _,Ws.nil _⟩,?_,rfl⟩⟩
  · unfold yy; unfold yf at hnm; rw [hnm,Bool.or_true]
  · unfold yf at hnm; simp at hnm; unfold qar; rw [if_neg (by rw [hnm.1]; decide)]
 have f1 := h1;try simp only [bl] at f1
 have hN : hdN (L.drop i) = false := by simpa using f1
 rw [zn hN]
 refine kS ?_;refine oV ?_;refine oC trivial rfl call59 rfl (qb1 b i vall vs vi vl vo va L hL) (by repeat constructor) ?_;rintro _ _ _ hx2 ⟨rfl,rfl,rfl⟩;iterate 3 refine oV ?_
 refine qq trivial rfl zeroValue103 rfl (fun b5 => ?_);refine oS sizeOf103 ?_;refine oV ?_;refine nU ?_;iterate 2 refine oV ?_
 refine' oZ (fun hb26 => ?_) ?_;rotate_left
 ·
  have fb26 := hb26
  try simp only [bl] at fb26
  refine gF hb26 0 underlying103 sizeOf3 ?_;refine gL hb26 isAgg3 ?_;refine gV hb26 ?_;refine oN ?_;exact qa rfl
 refine nT ?_;refine cC rfl (fun h2 => ?_) (fun h2 => ?_)
 ·
  have f2 := h2;try simp only [bl] at f2
  have h3 := qkl h2
  refine sR ?_;refine oV ?_;refine nF ?_;refine ret1 rfl rfl ?_;refine fun w' hw' => ⟨I,[rdB b vall i vs vi vl vo va,skR vs K,ndR va ns],hw'.sort (by repeat constructor),Ext.refl _ _,.inl ⟨rfl,rfl,rfl,fun hlt => ?_⟩⟩
  rw [qko,decide_eq_true hlt,Bool.true_and] at hN
  rw [decide_eq_true hlt,Bool.true_and] at h3
  unfold yy
  unfold yf at hN
  rw [hN,Bool.or_false]
  exact h3
 have f2 := h2;try simp only [bl] at f2
 have h3 := qkm h2
 simp at h3
 have hz := hto (tkAt L i) (by rw [qcr (List.getElem?_eq_getElem h3.1)]; exact List.getElem_mem h3.1) h3.2
 refine kS ?_;refine oF 1 underlying103 sizeOf9 ?_;refine oL isAgg9 ?_;refine oI call215 rfl (q0j _ hM hz) ?_;rintro _ I3 hx3 ⟨ra,rb,rfl,hra,hrb⟩;iterate 3 refine oV ?_
 refine qq trivial rfl zeroValue35 rfl (fun b7 => ?_);refine oS sizeOf35 ?_;refine oV ?_;refine nS ?_;iterate 2 refine oV ?_
 refine oF 1 underlying101 sizeOf3 ?_;refine oL isAgg3 ?_
 (refine qh trivial rfl rfl rfl ?_ ?_; (omega))
 refine oV ?_;refine oF 1 underlying101 sizeOf3 ?_;refine oS sizeOf3 ?_;refine nS ?_;refine oV ?_;refine oA isAgg35 sizeOf35 ?_;refine qw trivial rfl (qd8) rfl (.cons rfl rfl rfl (by repeat constructor) (.cons rfl rfl rfl (by repeat constructor) .nil)) ?_;refine oC trivial rfl call200 rfl (hnode ⟨numN (numQ (tkAt L i).text),ra,rb⟩ vs va ⟨hra,hrb⟩ (i + 1)) (by repeat constructor) ?_;rintro _ _ _ hx4 ⟨rfl,rfl,vs',va',rfl⟩;refine nS ?_;refine oV ?_;refine nE ?_;refine ret1 rfl rfl ?_;refine fun w' hw' => ⟨I3,[rdB b vall (i + 1) vs' vi vl vo va',skR vs' (K ++ [odI ns.length]),ndR va' (ns ++ [⟨numN (numQ (tkAt L i).text),ra,rb⟩])],hw'.sort (by repeat constructor),hx3,.inr ⟨rfl,h3.1,?_,vs',va',_,⟨hra,hrb⟩,?_,rfl⟩⟩
 · unfold yy; rw [h3.2]; rfl
 · unfold qar; rw [if_pos h3.2]
theorem qq7 {L : List Tok} {i : Nat} {e : Option Int} {r1 : List Tok} (he : Expo (L.drop i) e r1) {j : Nat} (hj : j = adv (hdT (L.drop i) 2 vf) i) (hlt : j < L.length) (hk : (tkAt L j).kind = 1) {n : Nat} (hn : yl (tkAt L j).text = some n) :
   e = some ((if hdT (L.drop i) 2 vf then -1 else 1) * (n : Int)) ∧ r1 = L.drop (j + 1) := by
 cases hm : hdT (L.drop i) 2 vf with
 | true =>
   rw [zm hm] at hj
   subst hj
   have hi := jn hm
   have hx : isT (tkAt L i) 2 vf = true := by rw [yq hi] at hm; exact hm
   have h2 : Expo (L.drop i) (some (-(n : Int))) (L.drop (i + 1 + 1)) := by rw [yq hi,yq hlt]; exact .neg hx hk hn
   obtain ⟨rfl,rfl⟩ := he.det h2
   exact ⟨by simp,rfl⟩
 | false =>
   rw [zn hm] at hj
   subst hj
   have hx : isT (tkAt L j) 2 vf = false := by rw [yq hlt] at hm; exact hm
   have h2 : Expo (L.drop j) (some (n : Int)) (L.drop (j + 1)) := by rw [yq hlt]; exact .pos hx hk hn
   obtain ⟨rfl,rfl⟩ := he.det h2
   exact ⟨by simp,rfl⟩
theorem qh8 {L : List Tok} {i : Nat} {e : Option Int} {r1 : List Tok} (he : Expo (L.drop i) e r1) {j : Nat} (hj : j = adv (hdT (L.drop i) 2 vf) i) (hn : j < L.length → (tkAt L j).kind = 1 → yl (tkAt L j).text = none) :
   e = none ∧ r1 = L.drop j := by
 cases hm : hdT (L.drop i) 2 vf with
 | true =>
   rw [zm hm] at hj
   subst hj
   have hi := jn hm
   have hx : isT (tkAt L i) 2 vf = true := by rw [yq hi] at hm; exact hm
   by_cases hlt : i + 1 < L.length
   · have h2 : Expo (L.drop i) none (L.drop (i + 1)) := by rw [yq hi, yq hlt]; exact .neg_bad hx (hn hlt)
     obtain ⟨rfl,rfl⟩ := he.det h2
     exact ⟨rfl,rfl⟩
   · have h2 : Expo (L.drop i) none (L.drop (i + 1)) := by rw [yq hi, List.drop_eq_nil_of_le (by omega)]; exact .neg_end hx
     obtain ⟨rfl,rfl⟩ := he.det h2
     exact ⟨rfl,rfl⟩
 | false =>
   rw [zn hm] at hj
   subst hj
   by_cases hlt : j < L.length
   · have hx : isT (tkAt L j) 2 vf = false := by rw [yq hlt] at hm; exact hm
     have h2 : Expo (L.drop j) none (L.drop j) := by rw [yq hlt]; exact .pos_bad hx (hn hlt)
     obtain ⟨rfl,rfl⟩ := he.det h2
     exact ⟨rfl,rfl⟩
   · have h2 : Expo (L.drop j) none (L.drop j) := by rw [List.drop_eq_nil_of_le (by omega)]; exact .pos_end
     obtain ⟨rfl,rfl⟩ := he.det h2
     exact ⟨rfl,rfl⟩
theorem q0n (b i : Nat) (vall vs vi vl vo va : Value) (a : Int) (ns : List qd) (K : List Value) (L : List Tok) {I : Hp} (hE : Errs I) (hL : Slc I 4 vall (L.map Tok.cells)) (hn : L.length ≤ 10000) (hs : zg L) (hto : yz L) (hK : K.length ≤ 90000) (hns : ns.length ≤ 90000) (hi : i ≤ L.length) {e : Option Int} {r1 : List Tok} (he : Expo (L.drop i) e r1) :
   Fun prog 196 [.pointer (some ⟨b,0,none⟩)] I [rdB b vall i vs vi vl vo va,skR vs (K ++ [odI a]),ndR va ns]
   (fun v I' B' => I = I' ∧ ((e = none ∧ v = .bool false ∧ ∃ i', i' ≤ L.length ∧ r1 = L.drop i' ∧ B' = [rdB b vall i' vs vi vl vo va, skR vs (K ++ [odI a]), ndR va ns]) ∨
     (∃ z,e = some z ∧ v = .bool true ∧ ∃ i' vs' va' c,i < i' ∧ i' ≤ L.length ∧ r1 = L.drop i' ∧ c.ok I ∧ c.c = powN a z ∧ B' = [rdB b vall i' vs' vi vl vo va',skR vs' (K ++ [odI ns.length]),ndR va' (ns ++ [c])]))) := by
 have hnode : ∀ (c : qd) (vs va : Value) (hc : c.ok I) (j : Nat), Fun prog 200 [.pointer (some ⟨b, 0, none⟩), ndV c] I [rdB b vall j vs vi vl vo va, skR vs K, ndR va ns]
   (fun v I' B' => I = I' ∧ v = .tuple #[] ∧ ∃ vs' va',B' = [rdB b vall j vs' vi vl vo va',skR vs' (K ++ [odI ns.length]),ndR va' (ns ++ [c])]) := fun c vs va hc j => qhv b j vall vs vi vl vo va c ns K hc hK hns
 obtain ⟨j,hj⟩ : ∃ j,j = adv (hdT (L.drop i) 2 vf) i := ⟨_,rfl⟩
 have hjl : j ≤ L.length := by rw [hj]; exact qzj hi
 have hji : i ≤ j := by rw [hj]; unfold adv; split <;> omega
 have hbad : (∀ m, Lib.atoiAll (tkAt L j).text.data.toList ≠ .ok m) → j < L.length → (tkAt L j).kind = 1 → yl (tkAt L j).text = none := fun h hlt hk => by
   have hz := hto (tkAt L j) (by rw [qcr (List.getElem?_eq_getElem hlt)]; exact List.getElem_mem hlt) hk
   cases hx : yl (tkAt L j).text with
   | none => rfl
   | some n => exact absurd ((qkt hz n).1 hx).1 (h _)
 have hgood : ∀ {n : Int}, Lib.atoiAll (tkAt L j).text.data.toList = .ok n → j < L.length → (tkAt L j).kind = 1 → 0 ≤ n ∧ (n ≤ 20 → yl (tkAt L j).text = some n.toNat) ∧ (20 < n → yl (tkAt L j).text = none) := fun {n} h hlt hk => by
   have hz := hto (tkAt L j) (by rw [qcr (List.getElem?_eq_getElem hlt)]; exact List.getElem_mem hlt) hk
   have h0 := qzr hz h
   refine ⟨h0,fun h20 => (qkt hz _).2 ⟨by rw [h,Int.toNat_of_nonneg h0],by omega⟩,fun h20 => ?_⟩
   cases hx : yl (tkAt L j).text with
   | none => rfl
   | some m =>
     have := (qkt hz m).1 hx
     rw [h] at this
     have h3 := Lib.NumEnd.ok.inj this.1
     omega
 intro w hw
 refine qn _ func196 rfl ntmps196 rfl ?_ hw;refine sR ?_;refine oV ?_;refine nS ?_;refine oV ?_;refine nU ?_;refine oV ?_;refine oC trivial rfl call140 rfl (qcs b i vall vs vi vl vo va vf L hL (by omega)) (by repeat constructor) ?_;rintro _ _ _ hx1 ⟨rfl,rfl,rfl⟩;refine nT ?_;refine cC rfl (fun h1 => ?_) (fun h1 => ?_)
 ·
  have f1 := h1;try simp only [bl] at f1
  refine cR ?_;refine oV ?_;refine oN (tC (cS ?_))
  rw [← hj]
  refine cR ?_;refine oV ?_;refine oC trivial rfl call59 rfl (qb1 b j vall vs vi vl vo va L hL) (by repeat constructor) ?_;rintro _ _ _ hx2 ⟨rfl,rfl,rfl⟩;iterate 3 refine oV ?_
  refine qq trivial rfl zeroValue103 rfl (fun b4 => ?_);refine oS sizeOf103 ?_;refine oV ?_;refine nS ?_;refine oF 1 underlying103 sizeOf9 ?_;refine oL isAgg9 ?_;refine qc1 trivial rfl call216 rfl (qqa _ hE (by have := hs.at_ j; omega)) ?_;rintro _ ⟨n,er,rfl,hA⟩;iterate 5 refine oV ?_
  refine oN (tC (cS (cS ?_)))
  rcases hA with ⟨hA,rfl⟩ | ⟨hA,N,rfl⟩
  ·
   refine cR ?_;iterate 2 refine oV ?_
   refine' oZ (fun hb23 => ?_) ?_;rotate_left
   ·
    have fb23 := hb23
    try simp only [bl] at fb23
    refine gF hb23 0 underlying103 sizeOf3 ?_;refine gL hb23 isAgg3 ?_;refine gV hb23 ?_;refine oN ?_;exact qa rfl
   refine' oZ (fun hb28 => ?_) ?_;rotate_left
   ·
    refine gV hb28 ?_;refine qd0 (v := .bool false) (wS rfl rfl hb28) rfl rfl rfl (fun w => by kernel_rfl) ?_;refine oN ?_;exact qa rfl
   refine' oZ (fun hb32 => ?_) ?_;rotate_left
   ·
    iterate 2 refine gV hb32 ?_
    refine oN ?_;exact qa rfl
   refine nT ?_;refine cC rfl (fun h2 => ?_) (fun h2 => ?_)
   ·
    have f2 := h2;try simp only [bl] at f2
    have h3 : yl (tkAt L j).text = none ∨ ¬ (j < L.length ∧ (tkAt L j).kind = 1) := by
      by_cases hc : j < L.length ∧ (tkAt L j).kind = 1
      · left
        refine (hgood hA hc.1 hc.2).2.2 ?_
        rw [decide_eq_true hc.1,hc.2] at h2
        simpa using h2
      · exact .inr hc
    have hr := qh8 he hj (fun k1 k2 => h3.elim id fun h => absurd ⟨k1,k2⟩ h)
    refine sR ?_;refine oV ?_;refine nF ?_;refine ret1 rfl rfl ?_;exact fun w' hw' => ⟨I,[rdB b vall j vs vi vl vo va,skR vs (K ++ [odI a]),ndR va ns],hw'.sort (by repeat constructor),Ext.refl _ _,rfl,.inl ⟨hr.1,rfl,j,hjl,hr.2,rfl⟩⟩
   have f2 := h2;try simp only [bl] at f2
   have h3 : j < L.length ∧ (tkAt L j).kind = 1 ∧ n ≤ 20 := by
     simp at h2
     exact ⟨h2.1.1,h2.1.2,by omega⟩
   obtain ⟨hn0,hn1,_⟩ := hgood hA h3.1 h3.2.1
   have hr := qq7 he hj h3.1 h3.2.1 (hn1 h3.2.2)
   rw [Int.toNat_of_nonneg hn0] at hr
   refine kS ?_;iterate 2 refine oV ?_
   refine oF 1 underlying101 sizeOf3 ?_;refine oL isAgg3 ?_
   (refine qh trivial rfl rfl rfl ?_ ?_; (omega))
   refine oV ?_;refine oF 1 underlying101 sizeOf3 ?_;refine oS sizeOf3 ?_;refine nS ?_;iterate 2 refine oV ?_
   refine oC trivial rfl call199 rfl (qhu b (j + 1) vall vs vi vl vo va a K (by omega)) (by repeat constructor) ?_;rintro _ _ _ hx4 ⟨rfl,rfl,vs2,rfl⟩;iterate 2 refine oV ?_
   (refine jy trivial rfl rfl rfl ?_ ?_; (omega))
   refine qw trivial rfl (qd8) rfl (.cons rfl rfl rfl (by repeat constructor) (.cons rfl rfl rfl (by repeat constructor) (.cons rfl rfl rfl (by repeat constructor) .nil))) ?_;refine oC trivial rfl call200 rfl (hnode ⟨powN a (_ * n),.slice none 0 0,.slice none 0 0⟩ vs2 va ⟨Ws.nil _,Ws.nil _⟩ (j + 1)) (by repeat constructor) ?_;rintro _ _ _ hx5 ⟨rfl,rfl,vs3,va3,rfl⟩;refine nS ?_;refine oV ?_;refine nE ?_;refine ret1 rfl rfl ?_
   (exact fun w' hw' => ⟨I,[rdB b vall (j + 1) vs3 vi vl vo va3,skR vs3 (K ++ [odI ns.length]),ndR va3 (ns ++ [_])],hw'.sort (by repeat constructor),Ext.refl _ _,rfl,.inr ⟨_,hr.1,rfl,j + 1,vs3,va3,_,by omega,by omega,hr.2,⟨Ws.nil _,Ws.nil _⟩,by rw [f1]; rfl,rfl⟩⟩)
  refine cR ?_;iterate 2 refine oV ?_
  refine' oZ (fun hb23 => ?_) ?_;rotate_left
  ·
   have fb23 := hb23
   try simp only [bl] at fb23
   refine gF hb23 0 underlying103 sizeOf3 ?_;refine gL hb23 isAgg3 ?_;refine gV hb23 ?_;refine oN ?_;exact qa rfl
  refine' oZ (fun hb28 => ?_) ?_;rotate_left
  ·
   refine gV hb28 ?_;refine qd0 (v := .bool true) (wS rfl rfl hb28) rfl rfl rfl (fun w => by kernel_rfl) ?_;refine oN ?_;exact qa rfl
  refine' oZ (fun hb32 => ?_) ?_;rotate_left
  ·
   iterate 2 refine gV hb32 ?_
   refine oN ?_;exact qa rfl
  refine nT ?_;refine cC rfl (fun h2 => ?_) (fun h2 => ?_)
  ·
   have f2 := h2;try simp only [bl] at f2
   have hr := qh8 he hj (hbad hA)
   refine sR ?_;refine oV ?_;refine nF ?_;refine ret1 rfl rfl ?_;exact fun w' hw' => ⟨I,[rdB b vall j vs vi vl vo va,skR vs (K ++ [odI a]),ndR va ns],hw'.sort (by repeat constructor),Ext.refl _ _,rfl,.inl ⟨hr.1,rfl,j,hjl,hr.2,rfl⟩⟩
  have f2 := h2;try simp only [bl] at f2
  exfalso; rw [Bool.or_true,Bool.true_or] at h2; cases h2
 have f1 := h1;try simp only [bl] at f1
 refine cK (tC (cS ?_))
 rw [← hj]
 refine cR ?_;refine oV ?_;refine oC trivial rfl call59 rfl (qb1 b j vall vs vi vl vo va L hL) (by repeat constructor) ?_;rintro _ _ _ hx2 ⟨rfl,rfl,rfl⟩;iterate 3 refine oV ?_
 refine qq trivial rfl zeroValue103 rfl (fun b4 => ?_);refine oS sizeOf103 ?_;refine oV ?_;refine nS ?_;refine oF 1 underlying103 sizeOf9 ?_;refine oL isAgg9 ?_;refine qc1 trivial rfl call216 rfl (qqa _ hE (by have := hs.at_ j; omega)) ?_;rintro _ ⟨n,er,rfl,hA⟩;iterate 5 refine oV ?_
 refine oN (tC (cS (cS ?_)))
 rcases hA with ⟨hA,rfl⟩ | ⟨hA,N,rfl⟩
 ·
  refine cR ?_;iterate 2 refine oV ?_
  refine' oZ (fun hb23 => ?_) ?_;rotate_left
  ·
   have fb23 := hb23
   try simp only [bl] at fb23
   refine gF hb23 0 underlying103 sizeOf3 ?_;refine gL hb23 isAgg3 ?_;refine gV hb23 ?_;refine oN ?_;exact qa rfl
  refine' oZ (fun hb28 => ?_) ?_;rotate_left
  ·
   refine gV hb28 ?_;refine qd0 (v := .bool false) (wS rfl rfl hb28) rfl rfl rfl (fun w => by kernel_rfl) ?_;refine oN ?_;exact qa rfl
  refine' oZ (fun hb32 => ?_) ?_;rotate_left
  ·
   iterate 2 refine gV hb32 ?_
   refine oN ?_;exact qa rfl
  refine nT ?_;refine cC rfl (fun h2 => ?_) (fun h2 => ?_)
  ·
   have f2 := h2;try simp only [bl] at f2
   have h3 : yl (tkAt L j).text = none ∨ ¬ (j < L.length ∧ (tkAt L j).kind = 1) := by
     by_cases hc : j < L.length ∧ (tkAt L j).kind = 1
     · left
       refine (hgood hA hc.1 hc.2).2.2 ?_
       rw [decide_eq_true hc.1,hc.2] at h2
       simpa using h2
     · exact .inr hc
   have hr := qh8 he hj (fun k1 k2 => h3.elim id fun h => absurd ⟨k1,k2⟩ h)
   refine sR ?_;refine oV ?_;refine nF ?_;refine ret1 rfl rfl ?_;exact fun w' hw' => ⟨I,[rdB b vall j vs vi vl vo va,skR vs (K ++ [odI a]),ndR va ns],hw'.sort (by repeat constructor),Ext.refl _ _,rfl,.inl ⟨hr.1,rfl,j,hjl,hr.2,rfl⟩⟩
  have f2 := h2;try simp only [bl] at f2
  have h3 : j < L.length ∧ (tkAt L j).kind = 1 ∧ n ≤ 20 := by
    simp at h2
    exact ⟨h2.1.1,h2.1.2,by omega⟩
  obtain ⟨hn0,hn1,_⟩ := hgood hA h3.1 h3.2.1
  have hr := qq7 he hj h3.1 h3.2.1 (hn1 h3.2.2)
  rw [Int.toNat_of_nonneg hn0] at hr
  refine kS ?_;iterate 2 refine oV ?_
  refine oF 1 underlying101 sizeOf3 ?_;refine oL isAgg3 ?_
  (refine qh trivial rfl rfl rfl ?_ ?_; (omega))
  refine oV ?_;refine oF 1 underlying101 sizeOf3 ?_;refine oS sizeOf3 ?_;refine nS ?_;iterate 2 refine oV ?_
  refine oC trivial rfl call199 rfl (qhu b (j + 1) vall vs vi vl vo va a K (by omega)) (by repeat constructor) ?_;rintro _ _ _ hx4 ⟨rfl,rfl,vs2,rfl⟩;iterate 2 refine oV ?_
  (refine jy trivial rfl rfl rfl ?_ ?_; (omega))
  refine qw trivial rfl (qd8) rfl (.cons rfl rfl rfl (by repeat constructor) (.cons rfl rfl rfl (by repeat constructor) (.cons rfl rfl rfl (by repeat constructor) .nil))) ?_;refine oC trivial rfl call200 rfl (hnode ⟨powN a (_ * n),.slice none 0 0,.slice none 0 0⟩ vs2 va ⟨Ws.nil _,Ws.nil _⟩ (j + 1)) (by repeat constructor) ?_;rintro _ _ _ hx5 ⟨rfl,rfl,vs3,va3,rfl⟩;refine nS ?_;refine oV ?_;refine nE ?_;refine ret1 rfl rfl ?_
  (exact fun w' hw' => ⟨I,[rdB b vall (j + 1) vs3 vi vl vo va3,skR vs3 (K ++ [odI ns.length]),ndR va3 (ns ++ [_])],hw'.sort (by repeat constructor),Ext.refl _ _,rfl,.inr ⟨_,hr.1,rfl,j + 1,vs3,va3,_,by omega,by omega,hr.2,⟨Ws.nil _,Ws.nil _⟩,by rw [f1]; rfl,rfl⟩⟩)
 refine cR ?_;iterate 2 refine oV ?_
 refine' oZ (fun hb23 => ?_) ?_;rotate_left
 ·
  have fb23 := hb23
  try simp only [bl] at fb23
  refine gF hb23 0 underlying103 sizeOf3 ?_;refine gL hb23 isAgg3 ?_;refine gV hb23 ?_;refine oN ?_;exact qa rfl
 refine' oZ (fun hb28 => ?_) ?_;rotate_left
 ·
  refine gV hb28 ?_;refine qd0 (v := .bool true) (wS rfl rfl hb28) rfl rfl rfl (fun w => by kernel_rfl) ?_;refine oN ?_;exact qa rfl
 refine' oZ (fun hb32 => ?_) ?_;rotate_left
 ·
  iterate 2 refine gV hb32 ?_
  refine oN ?_;exact qa rfl
 refine nT ?_;refine cC rfl (fun h2 => ?_) (fun h2 => ?_)
 ·
  have f2 := h2;try simp only [bl] at f2
  have hr := qh8 he hj (hbad hA)
  refine sR ?_;refine oV ?_;refine nF ?_;refine ret1 rfl rfl ?_;exact fun w' hw' => ⟨I,[rdB b vall j vs vi vl vo va,skR vs (K ++ [odI a]),ndR va ns],hw'.sort (by repeat constructor),Ext.refl _ _,rfl,.inl ⟨hr.1,rfl,j,hjl,hr.2,rfl⟩⟩
 have f2 := h2;try simp only [bl] at f2
 exfalso; rw [Bool.or_true,Bool.true_or] at h2; cases h2
theorem q0o (b i : Nat) (vall vs vi vl vo va : Value) (a : Int) (ns : List qd) (K : List Value) (L : List Tok) {I : Hp} (hE : Errs I) (hL : Slc I 4 vall (L.map Tok.cells)) (hn : L.length ≤ 10000) (hs : zg L) (hto : yz L) (hK : K.length ≤ 90000) (hns : ns.length ≤ 90000) (hi : i ≤ L.length) {e : Option Int} {r1 : List Tok} (he : Expo (L.drop i) e r1) :
   Fun prog 196 [.pointer (some ⟨b,0,none⟩)] I [rdB b vall i vs vi vl vo va,skR vs (K ++ [odI a]),ndR va ns]
   (fun v I' B' => I = I' ∧ ∃ ok i' vs' va' ns' Kv, v = .bool ok ∧ B' = [rdB b vall i' vs' vi vl vo va', skR vs' Kv, ndR va' ns'] ∧ i' ≤ L.length ∧ (ok = false → e = none ∧ r1 = L.drop i') ∧
     (ok = true → ∃ z c,e = some z ∧ r1 = L.drop i' ∧ i < i' ∧ c.ok I ∧ c.c = powN a z ∧ Kv = K ++ [odI ns.length] ∧ ns' = ns ++ [c])) :=
 qds (q0n b i vall vs vi vl vo va a ns K L hE hL hn hs hto hK hns hi he) fun v I' B' h => by
   rcases h with ⟨rfl,⟨h1,rfl,i',h2,h3,rfl⟩ | ⟨z,h1,rfl,i',vs',va',c,h2,h3,h4,h5,h6,rfl⟩⟩
   · exact ⟨rfl,_,i',_,_,_,_,rfl,rfl,h2,fun _ => ⟨h1,h3⟩,fun h => by cases h⟩
   · exact ⟨rfl,_,i',_,_,_,_,rfl,rfl,h3,fun h => (by cases h),fun _ => ⟨z,c,h1,h4,h2,h5,h6,rfl,rfl⟩⟩
theorem q0p (b i : Nat) (vall vs vi vl vo va : Value) (ns : List qd) (K : List Value) (L : List Tok) {I : Hp} (hM : Mx I) (hL : Slc I 4 vall (L.map Tok.cells)) (hn : L.length ≤ 10000) (hs : zg L) (hto : yz L) (hK : K.length ≤ 90000) (hns : ns.length ≤ 90000) (hlt : i < L.length) (hlf : yy (tkAt L i) = true) :
   Fun prog 195 [.pointer (some ⟨b,0,none⟩)] I [rdB b vall i vs vi vl vo va,skR vs K,ndR va ns]
   (fun v I' B' => v = .bool true ∧ ∃ vs' va' c,c.ok I' ∧ c.c = qar (tkAt L i) ∧ B' = [rdB b vall (i + 1) vs' vi vl vo va',skR vs' (K ++ [odI ns.length]),ndR va' (ns ++ [c])]) :=
 qds (qq6 b i vall vs vi vl vo va ns K L hM hL hn hs hto hK hns) fun v I' B' h => by
   rcases h with ⟨h1,h2,h3,h4⟩ | ⟨h1,_,_,h2⟩
   · rw [h4 hlt] at hlf; cases hlf
   · exact ⟨h1,h2⟩
theorem q0q (b i : Nat) (vall vs vi vl vo va : Value) (ns : List qd) (K : List Value) (L : List Tok) {I : Hp} (hM : Mx I) (hL : Slc I 4 vall (L.map Tok.cells)) (hn : L.length ≤ 10000) (hs : zg L) (hto : yz L) (hK : K.length ≤ 90000) (hns : ns.length ≤ 90000) (hlf : ¬ (i < L.length ∧ yy (tkAt L i) = true)) :
   Fun prog 195 [.pointer (some ⟨b,0,none⟩)] I [rdB b vall i vs vi vl vo va,skR vs K,ndR va ns]
   (fun v I' B' => I = I' ∧ v = .bool false ∧ B' = [rdB b vall i vs vi vl vo va,skR vs K,ndR va ns]) :=
 qds (qq6 b i vall vs vi vl vo va ns K L hM hL hn hs hto hK hns) fun v I' B' h => by
   rcases h with ⟨h1,h2,h3,h4⟩ | ⟨h1,h2,h3,_⟩
   · exact ⟨h2,h1,h3⟩
   · exact absurd ⟨h2,h3⟩ hlf
structure Rd (L : List Tok) (I : Hp) (i' : Nat) (ns' : List qd) (Kv : List Value) (K' : List Fr) : Prop where
 kv : Kv = stk K' ++ [odI (vq ns')]
 fr : FrOk K'
 ok : ∀ o ∈ ns',o.ok I
 pos : 1 ≤ ns'.length
 few : ns'.length + K'.length ≤ i'
theorem q0r {L : List Tok} {K : List Fr} {all : List NodeC} {i : Nat} {o : POut} (h : RunE K all (L.drop i) o) (hm : hdT (L.drop i) 2 vf = true) : RunE (.neg :: K) all (L.drop (i + 1)) o := by
 have hi := jn hm
 rw [yq hi] at h hm
 exact h.minus hm
theorem q0s {L : List Tok} {K : List Fr} {all : List NodeC} {i : Nat} {o : POut} (h : RunE K all (L.drop i) o) (hm : hdT (L.drop i) 2 lpar = true) : RunE (.br :: K) all (L.drop (i + 1)) o := by
 have hi := jn hm
 rw [yq hi] at h hm
 exact h.bracket hm
theorem q0t {L : List Tok} {K : List Fr} {all : List NodeC} {i : Nat} {o : POut} (h : RunE K all (L.drop i) o) (h0 : hdT (L.drop i) 2 vf = false) (h1 : hdT (L.drop i) 2 lpar = false) (hlt : i < L.length) (hl : yy (tkAt L i) = true) : RunA K (all ++ [qar (tkAt L i)]) (L.drop (i + 1)) o := by
 rw [yq hlt] at h h0 h1
 have := h.leaf h0 h1
 rwa [if_pos hl] at this
theorem q0u {L : List Tok} {K : List Fr} {all : List NodeC} {i : Nat} {o : POut} (h : RunE K all (L.drop i) o) (h0 : hdT (L.drop i) 2 vf = false) (h1 : hdT (L.drop i) 2 lpar = false) (hl : ¬ (i < L.length ∧ yy (tkAt L i) = true)) : o = .bad (L.drop i) := by
 by_cases hlt : i < L.length
 · rw [yq hlt] at h h0 h1 ⊢
   have := h.leaf h0 h1
   rwa [if_neg (fun e => hl ⟨hlt,e⟩)] at this
 · rw [List.drop_eq_nil_of_le (by omega)] at h ⊢
   exact h.nil
theorem q0v (b i : Nat) (vall vs vi vl vo va : Value) (ns : List qd) (K : List Fr) (L : List Tok) {I : Hp} (hM : Mx I) (hL : Slc I 4 vall (L.map Tok.cells)) (hn : L.length ≤ 10000) (hs : zg L) (hto : yz L) (hK : FrOk K) (hok : ∀ o ∈ ns, o.ok I) (hb : ns.length + K.length ≤ i) (hi : i ≤ L.length) {o : POut} (h : RunE K (ns.map qd.c) (L.drop i) o) :
   Fun prog 169 [.pointer (some ⟨b,0,none⟩)] I [rdB b vall i vs vi vl vo va,skR vs (stk K),ndR va ns]
   (fun v I' B' => ∃ ok i' vs' va' ns' Kv,v = .bool ok ∧ B' = [rdB b vall i' vs' vi vl vo va',skR vs' Kv,ndR va' ns'] ∧ i' ≤ L.length ∧ (ok = false → o = .bad (L.drop i')) ∧ (ok = true → ∃ K',Rd L I' i' ns' Kv K' ∧ RunA K' (ns'.map qd.c) (L.drop i') o ∧ i < i')) := by
 intro w hw
 refine qn _ func169 rfl ntmps169 rfl ?_ hw;refine sR ?_;refine oV ?_;refine oN (tC (cB ?_));refine qt (ι := Nat × List Fr × Value) [0] (.cons rfl .nil) (fun x => L.length - x.1) (fun x E0 => E0) (fun x => St w (jb [rdB b vall i vs vi vl vo va,skR vs (stk K),ndR va ns]) I [rdB b vall x.1 x.2.2 vi vl vo va,skR x.2.2 (stk x.2.1),ndR va ns]) (fun x => x.1 ≤ L.length ∧ FrOk x.2.1 ∧ ns.length + x.2.1.length ≤ x.1 ∧ RunE x.2.1 (ns.map qd.c) (L.drop x.1) o ∧ i ≤ x.1) ((i,K,vs)) (sC rfl sN) (fun _ h => h) (⟨hi,hK,hb,h,Nat.le_refl _⟩) ?_;rintro ⟨j,K1,us⟩ ⟨hj,hK1,hb1,hr,hij⟩
 try dsimp only
 simp only at hj hK1 hb1 hr hij; have hst := qct K1
 refine cB (cB (sR ?_));refine oV ?_;refine oC trivial rfl call140 rfl (qcs b j vall us vi vl vo va vf L hL (by omega)) (by repeat constructor) ?_;rintro _ _ _ hx1 ⟨rfl,rfl,rfl⟩;refine oV ?_;refine nT ?_;refine cC rfl (fun h1 => ?_) (fun h1 => ?_)
 ·
  have f1 := h1;try simp only [bl] at f1
  have hm : hdT (L.drop j) 2 vf = true := h1
  rw [zm hm]
  have hlt := jn hm
  refine cR ?_;refine oV ?_;refine qw trivial rfl (qci) rfl (.cons rfl rfl rfl (by repeat constructor) (.cons rfl rfl rfl (by repeat constructor) .nil)) ?_;refine qkf trivial rfl rfl (fun w => by kernel_rfl) ?_;refine oC trivial rfl call173 rfl (qdm b (j + 1) vall us vi vl vo va (opV 6 3 false) 204 (stk K1) (by omega)) (by repeat constructor) ?_;rintro _ _ _ hx2 ⟨rfl,rfl,us2,rfl⟩;refine oN (qg (qg ?_))
  (exact ql (j + 1,.neg :: K1,us2) (sC rfl sN) (fun _ h => h.sort (by repeat constructor)) (by show L.length - (j + 1) < L.length - j; omega) ⟨by show j + 1 ≤ _; omega,hK1,by show ns.length + (K1.length + 1) ≤ j + 1; omega,q0r hr hm,by show i ≤ j + 1; omega⟩)
 have f1 := h1;try simp only [bl] at f1
 have hm : hdT (L.drop j) 2 vf = false := h1
 rw [zn hm]
 refine sR ?_;refine oV ?_;refine oC trivial rfl call140 rfl (qcs b j vall us vi vl vo va lpar L hL (by omega)) (by repeat constructor) ?_;rintro _ _ _ hx1 ⟨rfl,rfl,rfl⟩;refine oV ?_;refine nT ?_;refine cC rfl (fun h2 => ?_) (fun h2 => ?_)
 ·
  have f2 := h2;try simp only [bl] at f2
  have hq : hdT (L.drop j) 2 lpar = true := h2
  rw [zm hq]
  have hlt := jn hq
  refine cR ?_;refine oV ?_;refine qw trivial rfl (qci) rfl (.cons rfl rfl rfl (by repeat constructor) .nil) ?_;refine qkf trivial rfl rfl (fun w => by kernel_rfl) ?_;refine oC trivial rfl call173 rfl (qdm b (j + 1) vall us vi vl vo va (opV 0 0 true) 204 (stk K1) (by omega)) (by repeat constructor) ?_;rintro _ _ _ hx2 ⟨rfl,rfl,us2,rfl⟩;refine oN (qg (qg ?_))
  (exact ql (j + 1,.br :: K1,us2) (sC rfl sN) (fun _ h => h.sort (by repeat constructor)) (by show L.length - (j + 1) < L.length - j; omega) ⟨by show j + 1 ≤ _; omega,hK1,by show ns.length + (K1.length + 1) ≤ j + 1; omega,q0s hr hq,by show i ≤ j + 1; omega⟩)
 have f2 := h2;try simp only [bl] at f2
 have hq : hdT (L.drop j) 2 lpar = false := h2
 rw [zn hq]
 refine cS ?_
 by_cases hlf : j < L.length ∧ yy (tkAt L j) = true
 ·
  refine cR ?_;refine oV ?_;refine oC trivial rfl call195 rfl (q0p b j vall us vi vl vo va ns (stk K1) L hM hL hn hs hto (by omega) (by omega) hlf.1 hlf.2) (by repeat constructor) ?_;rintro _ I3 _ hx3 ⟨rfl,us3,va3,c3,hc3,hcc,rfl⟩;refine oV ?_;refine oN (tC (cT (qb (qb (tR (qb ?_))))));refine ret1 rfl rfl ?_;refine fun w' hw' => ⟨I3,_,hw'.sort (by repeat constructor),hx3,true,j + 1,us3,va3,ns ++ [c3],_,rfl,rfl,hlf.1,fun h => (by cases h),fun _ => ⟨K1,⟨by rw [qhy],hK1,?_,by simp,by rw [List.length_append]; show ns.length + 1 + K1.length ≤ j + 1; omega⟩,?_,by omega⟩⟩
  · intro o ho
    rcases List.mem_append.1 ho with ho | ho
    · exact (hok o ho).le hx3.le
    · rw [List.mem_singleton.1 ho]; exact hc3
  · rw [List.map_append]
    show RunA K1 (ns.map qd.c ++ [c3.c]) _ _
    rw [hcc]
    exact q0t hr hm hq hlf.1 hlf.2
 refine cR ?_;refine oV ?_;refine oC trivial rfl call195 rfl (q0q b j vall us vi vl vo va ns (stk K1) L hM hL hn hs hto (by omega) (by omega) hlf) (by repeat constructor) ?_;rintro _ _ _ hx3 ⟨rfl,rfl,rfl⟩;refine oV ?_;refine oN (tC (cT (qb (qb (tR (qb ?_))))));refine ret1 rfl rfl ?_;exact fun w' hw' => ⟨I,[rdB b vall j us vi vl vo va,skR us (stk K1),ndR va ns],hw'.sort (by repeat constructor),Ext.refl _ _,false,j,us,va,ns,_,rfl,rfl,hj,fun _ => q0u hr hm hq hlf,fun h => by cases h⟩
theorem q0w {L : List Tok} {K : List Fr} {all : List NodeC} {i : Nat} {o : POut} (h : RunA K all (L.drop i) o) (hm : hdT (L.drop i) 2 caret = false) : RunM K true all (L.drop i) o := h.none hm
theorem q0x {L : List Tok} {K : List Fr} {all : List NodeC} {i : Nat} {o : POut} {e : Option Int} {r1 : List Tok} (h : RunA K all (L.drop i) o) (hm : hdT (L.drop i) 2 caret = true) (he : Expo (L.drop (i + 1)) e r1) : match e with
   | some e => RunM K true (all ++ [powN (vr all) e]) r1 o
   | none => o = .bad r1 := by
 have hi := jn hm
 rw [yq hi] at h hm
 cases e <;> exact h.caret hm he
theorem qq8 {L : List Tok} {K : List Fr} {all : List NodeC} {i : Nat} {o : POut} (hK : FrOk K) (h : RunM K true all (L.drop i) o) (hm : hdT (L.drop i) 2 rpar = true) : match (q8 0 K all).1 with
   | .br :: K' => RunA K' (q8 0 K all).2 (L.drop (i + 1)) o
   | _ => o = .bad (L.drop i) := by
 have hi := jn hm
 rw [yq hi] at h hm ⊢
 exact h.shut hK hm
theorem qq9 {K : List Fr} (h : FrOk (.br :: K)) : FrOk K := h
theorem q0y (b i : Nat) (vall vs vi vl vo va : Value) (ns : List qd) (K : List Fr) (L : List Tok) {I : Hp} (hE : Errs I) (hL : Slc I 4 vall (L.map Tok.cells)) (hn : L.length ≤ 10000) (hs : zg L) (hto : yz L) (hK : FrOk K) (hok : ∀ o ∈ ns, o.ok I) (h1 : 1 ≤ ns.length) (hb : ns.length + K.length ≤ i) (hi : i ≤ L.length) {o : POut} (h : RunA K (ns.map qd.c) (L.drop i) o) :
   Fun prog 170 [.pointer (some ⟨b,0,none⟩)] I [rdB b vall i vs vi vl vo va,skR vs (stk K ++ [odI (vq ns)]),ndR va ns]
   (fun v I' B' => I = I' ∧ ∃ ok i' vs' va' ns' Kv,v = .bool ok ∧ B' = [rdB b vall i' vs' vi vl vo va',skR vs' Kv,ndR va' ns'] ∧ i' ≤ L.length ∧ (ok = false → o = .bad (L.drop i')) ∧ (ok = true → ∃ K',Rd L I i' ns' Kv K' ∧ RunM K' true (ns'.map qd.c) (L.drop i') o ∧ hdT (L.drop i') 2 rpar = false ∧ i ≤ i')) := by
 intro w hw
 refine qn _ func170 rfl ntmps170 rfl ?_ hw;refine sR ?_;refine oV ?_;refine oN (tC (cB ?_));refine qt (ι := Nat × List Fr × List qd × Value × Value) [0] (.cons rfl .nil) (fun x => L.length - x.1) (fun x E0 => E0) (fun x => St w (jb [rdB b vall i vs vi vl vo va,skR vs (stk K ++ [odI (vq ns)]),ndR va ns]) I [rdB b vall x.1 x.2.2.2.1 vi vl vo x.2.2.2.2,skR x.2.2.2.1 (stk x.2.1 ++ [odI (vq x.2.2.1)]),ndR x.2.2.2.2 x.2.2.1]) (fun x => x.1 ≤ L.length ∧ FrOk x.2.1 ∧ (∀ o ∈ x.2.2.1,o.ok I) ∧ 1 ≤ x.2.2.1.length ∧ x.2.2.1.length + x.2.1.length ≤ x.1 ∧ RunA x.2.1 (x.2.2.1.map qd.c) (L.drop x.1) o ∧ i ≤ x.1) ((i,K,ns,vs,va)) (sC rfl sN) (fun _ h => h) (⟨hi,hK,hok,h1,hb,h,Nat.le_refl _⟩) ?_;rintro ⟨j,K1,n0,us,ua⟩ ⟨hj,hK1,hok0,hn0,hb0,hr,hij⟩
 try dsimp only
 simp only at hj hK1 hok0 hn0 hb0 hr hij; have hst := qct K1
 refine cB (cS (sR ?_));refine oV ?_;refine oC trivial rfl call140 rfl (qcs b j vall us vi vl vo ua caret L hL (by omega)) (by repeat constructor) ?_;rintro _ _ _ hx1 ⟨rfl,rfl,rfl⟩;refine qf2 trivial rfl rfl (fun hb10 => ?_) (fun hb10 => ?_)
 ·
  have fb10 := hb10
  try simp only [bl] at fb10
  have hm : hdT (L.drop j) 2 caret = true := hb10
  rw [zm hm]
  have hlt := jn hm
  obtain ⟨e,r1,he⟩ := Expo.some_out (L.drop (j + 1))
  have hce := q0x hr hm he
  refine o_pv (wS rfl rfl rfl) rfl rfl ?_;refine oC (wS rfl rfl rfl) rfl call196 rfl (q0o b (j + 1) vall us vi vl vo ua (vq n0) n0 (stk K1) L hE hL hn hs hto (by omega) (by omega) (by omega) he) (by repeat constructor) ?_;rintro _ _ _ hx2 ⟨rfl,ok,j1,us1,ua1,n1,Kv,rfl,rfl,hj1,hno,hyes⟩;refine o_pv (wS rfl rfl rfl) rfl rfl ?_;refine oV ?_;refine nT ?_;refine cC rfl (fun h1 => ?_) (fun h1 => ?_)
  ·
   have f1 := h1;try simp only [bl] at f1
   have hk : ok = false := by simpa using f1
   obtain ⟨rfl,rfl⟩ := hno hk
   refine sR ?_;refine oV ?_;refine oN (tC (cT (tR (qb (tR (qb ?_))))));refine ret1 rfl rfl ?_;exact fun w' hw' => ⟨I,_,hw'.sort (by repeat constructor),Ext.refl _ _,rfl,false,j1,us1,ua1,n1,Kv,rfl,rfl,hj1,fun _ => hce,fun h => by cases h⟩
  have f1 := h1;try simp only [bl] at f1
  have hk : ok = true := by simpa using f1
  obtain ⟨z,c,rfl,rfl,hlt1,hc1,hc2,rfl,rfl⟩ := hyes hk
  have hok1 : ∀ o ∈ n0 ++ [c], o.ok I := fun o ho => by
    rcases List.mem_append.1 ho with ho | ho
    · exact hok0 o ho
    · rw [List.mem_singleton.1 ho]; exact hc1
  have hM : RunM K1 true ((n0 ++ [c]).map qd.c) (L.drop j1) o := by rw [List.map_append]; show RunM K1 true (n0.map qd.c ++ [c.c]) _ _; rw [hc2,qf4]; exact hce
  have hln : (n0 ++ [c]).length = n0.length + 1 := by simp
  rw [← qhy n0 c]
  have hij1 : i ≤ j1 := by omega
  have hb1 : (n0 ++ [c]).length + K1.length ≤ j1 := by omega
  have hn1 : 1 ≤ (n0 ++ [c]).length := by omega
  have hjj : j ≤ j1 := by omega
  generalize n0 ++ [c] = n1 at hok1 hM hb1 hn1 ⊢
  refine kS ?_;refine oV ?_;refine oC trivial rfl call172 rfl (qer b j1 vall us1 vi vl vo ua1 3 n1 K1 hK1 hok1 (by omega) hn1) (by repeat constructor) ?_;rintro _ _ _ hx3 ⟨rfl,rfl,us2,ua2,n2,rfl,hc2,hok2,hn2,hb2⟩;refine oN (tC (cS ?_))
  have hM2 := RunM.fold (b := 3) (.inl rfl) hK1 hM
  have hK2 := qdl (b := 3) (all := n1.map qd.c) hK1
  rw [← hc2] at hM2
  generalize (q8 3 K1 (n1.map qd.c)).1 = K2 at hM2 hK2 hb2 ⊢
  refine cR ?_;refine oV ?_;refine oC trivial rfl call59 rfl (qb1 b j1 vall us2 vi vl vo ua2 L hL) (by repeat constructor) ?_;rintro _ _ _ hx4 ⟨rfl,rfl,rfl⟩;iterate 3 refine oV ?_
  refine qq trivial rfl zeroValue103 rfl (fun b3 => ?_);refine oS sizeOf103 ?_;refine oV ?_;refine nU ?_;refine oF 0 underlying103 sizeOf3 ?_;refine oL isAgg3 ?_;refine oV ?_;refine' oZ (fun hb25 => ?_) ?_;rotate_left
  ·
   have fb25 := hb25
   try simp only [bl] at fb25
   refine gF hb25 1 underlying103 sizeOf9 ?_;refine gL hb25 isAgg9 ?_;refine gV hb25 ?_;refine oN ?_;exact qa rfl
  refine nT ?_;refine cC rfl (fun h2 => ?_) (fun h2 => ?_)
  ·
   have f2 := h2;try simp only [bl] at f2
   have hp : hdT (L.drop j1) 2 rpar = false := by
     rw [qep]
     unfold isT
     rw [Bool.and_eq_false_iff]
     right
     exact qkl h2
   refine sR ?_;refine oV ?_;refine oN (tC (cT (tR (qb (tR (qb ?_))))));refine ret1 rfl rfl ?_;exact fun w' hw' => ⟨I,[rdB b vall j1 us2 vi vl vo ua2,skR us2 (stk K2 ++ [odI (vq n2)]),ndR ua2 n2],hw'.sort (by repeat constructor),Ext.refl _ _,rfl,true,j1,us2,ua2,n2,_,rfl,rfl,hj1,fun h => (by cases h),fun _ => ⟨K2,⟨rfl,hK2,hok2,hn2,by omega⟩,hM2,hp,hij1⟩⟩
  have f2 := h2;try simp only [bl] at f2
  have hp0 : isT (tkAt L j1) 2 rpar = true := qkm h2
  have hlt1 : j1 < L.length := by
    rcases Nat.lt_or_ge j1 L.length with hh | hh
    · exact hh
    · rw [qht hh] at hp0
      exact absurd hp0 (by decide)
  have hp : hdT (L.drop j1) 2 rpar = true := by rw [qep,decide_eq_true hlt1,hp0]; rfl
  have hsh := qq8 hK2 hM2 hp
  refine kS ?_;refine oV ?_;refine oC trivial rfl call172 rfl (qer b j1 vall us2 vi vl vo ua2 0 n2 K2 hK2 hok2 (by omega) hn2) (by repeat constructor) ?_;rintro _ _ _ hx5 ⟨rfl,rfl,us3,ua3,n3,rfl,hc3,hok3,hn3,hb3⟩;refine oN (tC (cS (cS ?_)))
  have hK3 := qdl (b := 0) (all := n2.map qd.c) hK2
  rw [← hc3] at hsh
  generalize (q8 0 K2 (n2.map qd.c)).1 = K3 at hsh hK3 hb3 ⊢
  rcases K3 with _ | ⟨f,K4⟩
  ·
   refine cR ?_;refine oV ?_;refine oC trivial rfl call197 rfl (qkh b j1 vall us3 vi vl vo ua3 (stk [] ++ [odI (vq n3)]) (Nat.le_refl 1)) (by repeat constructor) ?_;rintro _ _ _ hx6 ⟨rfl,rfl,rfl⟩;iterate 3 refine oV ?_
   refine qq trivial rfl zeroValue204 rfl (fun b5 => ?_);refine oS sizeOf204 ?_;refine oV ?_;refine nS ?_;iterate 2 refine oV ?_
   refine' oZ (fun hb39 => ?_) ?_;rotate_left
   ·
    have fb39 := hb39
    try simp only [bl] at fb39
    refine gF hb39 2 underlying204 sizeOf4 ?_;refine gL hb39 isAgg4 ?_;refine gV hb39 ?_;refine oN ?_;exact qa rfl
   refine nT ?_;refine zp rfl (by rfl) ?_;refine sR ?_;refine oV ?_;refine oN (tC (cT (tR (qb (tR (qb ?_))))));refine ret1 rfl rfl ?_;exact fun w' hw' => ⟨I,[rdB b vall j1 us3 vi vl vo ua3,skR us3 (stk [] ++ [odI (vq n3)]),ndR ua3 n3],hw'.sort (by repeat constructor),Ext.refl _ _,rfl,false,j1,us3,ua3,n3,_,rfl,rfl,hj1,fun _ => hsh,fun h => by cases h⟩
  rw [qhz]
  have hst4 := qct K4
  have hpf := qkq f
  simp only [List.length_cons] at hb3
  have hsl : (stk K4 ++ preF f).length ≤ 80000 := by rw [List.length_append]; omega
  have hsl2 : (stk K4 ++ preF f ++ [opI (opK f) (opP f) (opB f)]).length ≤ 80001 := by rw [List.length_append]; exact Nat.succ_le_succ hsl
  refine cR ?_;refine oV ?_;refine oC trivial rfl call197 rfl (qki b j1 vall us3 vi vl vo ua3 (odI (vq n3)) (opK f) (opP f) (opB f) (stk K4 ++ preF f) (by omega)) (by repeat constructor) ?_;rintro _ _ _ hx6 ⟨rfl,rfl,rfl⟩;iterate 3 refine oV ?_
  refine qq trivial rfl zeroValue204 rfl (fun b5 => ?_);refine oS sizeOf204 ?_;refine oV ?_;refine nS ?_;iterate 2 refine oV ?_
  refine' oZ (fun hb39 => ?_) ?_;rotate_left
  ·
   have fb39 := hb39
   try simp only [bl] at fb39
   refine gF hb39 2 underlying204 sizeOf4 ?_;refine gL hb39 isAgg4 ?_;refine gV hb39 ?_;refine oN ?_;exact qa rfl
  refine nT ?_;refine cC rfl (fun h3 => ?_) (fun h3 => ?_)
  ·
   have f3 := h3;try simp only [bl] at f3
   have hbr : opB f = false := by simpa [bl] using h3
   have hfin : o = .bad (L.drop j1) := by
     cases f with
     | br => cases hbr
     | neg => exact hsh
     | bin k a => exact hsh
   refine sR ?_;refine oV ?_;refine oN (tC (cT (tR (qb (tR (qb ?_))))));refine ret1 rfl rfl ?_;exact fun w' hw' => ⟨I,[rdB b vall j1 us3 vi vl vo ua3,skR us3 (stk K4 ++ preF f ++ [opI (opK f) (opP f) (opB f)] ++ [odI (vq n3)]),ndR ua3 n3],hw'.sort (by repeat constructor),Ext.refl _ _,rfl,false,j1,us3,ua3,n3,_,rfl,rfl,hj1,fun _ => hfin,fun h => by cases h⟩
  have f3 := h3;try simp only [bl] at f3
  have hbr : opB f = true := by simpa [bl] using h3
  have hfb : f = .br := by
    cases f with
    | br => rfl
    | neg => cases hbr
    | bin k a => cases hbr
  subst hfb
  refine kS ?_;iterate 2 refine oV ?_
  refine oF 1 underlying101 sizeOf3 ?_;refine oL isAgg3 ?_
  (refine qh trivial rfl rfl rfl ?_ ?_; (omega))
  refine oV ?_;refine oF 1 underlying101 sizeOf3 ?_;refine oS sizeOf3 ?_;refine nS ?_;refine oV ?_;refine oC trivial rfl call198 rfl (qeq b (j1 + 1) vall us3 vi vl vo ua3 (odI (vq n3)) (stk K4 ++ preF .br ++ [opI (opK .br) (opP .br) (opB .br)]) (by omega)) (by repeat constructor) ?_;rintro _ _ _ hx7 ⟨rfl,rfl,us4,rfl⟩;refine oV ?_;refine nS ?_;refine oV ?_;refine oC trivial rfl call198 rfl (qeq b (j1 + 1) vall us4 vi vl vo ua3 (opI (opK .br) (opP .br) (opB .br)) (stk K4 ++ preF .br) (by omega)) (by repeat constructor) ?_;rintro _ _ _ hx8 ⟨rfl,rfl,us5,rfl⟩;refine nR ?_;iterate 2 refine oV ?_
  refine oC trivial rfl call173 rfl (qdm b (j1 + 1) vall us5 vi vl vo ua3 (.int .i64 (vq n3)) 245 (stk K4 ++ preF .br) (by omega)) (by repeat constructor) ?_;rintro _ _ _ hx9 ⟨rfl,rfl,us6,rfl⟩;refine oN (qg ?_);exact ql (j1 + 1,K4,n3,us6,ua3) (sC rfl sN) (fun _ h => by simp only [preF,List.append_nil] at h; exact h.sort (by repeat constructor)) (by (show L.length - (j1 + 1) < L.length - j; omega)) ⟨by show j1 + 1 ≤ _; omega,qq9 hK3,hok3,hn3,by show n3.length + K4.length ≤ j1 + 1; omega,hsh,by show i ≤ j1 + 1; omega⟩
 have fb10 := hb10
 try simp only [bl] at fb10
 have hm : hdT (L.drop j) 2 caret = false := hb10
 rw [zn hm]
 have hM : RunM K1 true (n0.map qd.c) (L.drop j) o := q0w hr hm
 obtain ⟨j1,rfl⟩ : ∃ j1,j1 = j := ⟨j,rfl⟩
 obtain ⟨us1,rfl⟩ : ∃ us1,us1 = us := ⟨us,rfl⟩
 obtain ⟨ua1,rfl⟩ : ∃ ua1,ua1 = ua := ⟨ua,rfl⟩
 obtain ⟨n1,rfl⟩ : ∃ n1,n1 = n0 := ⟨n0,rfl⟩
 have hok1 := hok0
 have hb1 := hb0
 have hn1 := hn0
 have hj1 := hj
 have hij1 : i ≤ j1 := hij
 iterate 3 refine qdy (qem rfl rfl rfl) rfl ?_
 refine oV ?_;refine nT ?_;refine qaf rfl rfl ?_;refine kS ?_;refine oV ?_;refine oC trivial rfl call172 rfl (qer b j1 vall us1 vi vl vo ua1 3 n1 K1 hK1 hok1 (by omega) hn1) (by repeat constructor) ?_;rintro _ _ _ hx3 ⟨rfl,rfl,us2,ua2,n2,rfl,hc2,hok2,hn2,hb2⟩;refine oN (tC (cS ?_))
 have hM2 := RunM.fold (b := 3) (.inl rfl) hK1 hM
 have hK2 := qdl (b := 3) (all := n1.map qd.c) hK1
 rw [← hc2] at hM2
 generalize (q8 3 K1 (n1.map qd.c)).1 = K2 at hM2 hK2 hb2 ⊢
 refine cR ?_;refine oV ?_;refine oC trivial rfl call59 rfl (qb1 b j1 vall us2 vi vl vo ua2 L hL) (by repeat constructor) ?_;rintro _ _ _ hx4 ⟨rfl,rfl,rfl⟩;iterate 3 refine oV ?_
 refine qq trivial rfl zeroValue103 rfl (fun b3 => ?_);refine oS sizeOf103 ?_;refine oV ?_;refine nU ?_;refine oF 0 underlying103 sizeOf3 ?_;refine oL isAgg3 ?_;refine oV ?_;refine' oZ (fun hb25 => ?_) ?_;rotate_left
 ·
  have fb25 := hb25
  try simp only [bl] at fb25
  refine gF hb25 1 underlying103 sizeOf9 ?_;refine gL hb25 isAgg9 ?_;refine gV hb25 ?_;refine oN ?_;exact qa rfl
 refine nT ?_;refine cC rfl (fun h2 => ?_) (fun h2 => ?_)
 ·
  have f2 := h2;try simp only [bl] at f2
  have hp : hdT (L.drop j1) 2 rpar = false := by
    rw [qep]
    unfold isT
    rw [Bool.and_eq_false_iff]
    right
    exact qkl h2
  refine sR ?_;refine oV ?_;refine oN (tC (cT (tR (qb (tR (qb ?_))))));refine ret1 rfl rfl ?_;exact fun w' hw' => ⟨I,[rdB b vall j1 us2 vi vl vo ua2,skR us2 (stk K2 ++ [odI (vq n2)]),ndR ua2 n2],hw'.sort (by repeat constructor),Ext.refl _ _,rfl,true,j1,us2,ua2,n2,_,rfl,rfl,hj1,fun h => (by cases h),fun _ => ⟨K2,⟨rfl,hK2,hok2,hn2,by omega⟩,hM2,hp,hij1⟩⟩
 have f2 := h2;try simp only [bl] at f2
 have hp0 : isT (tkAt L j1) 2 rpar = true := qkm h2
 have hlt1 : j1 < L.length := by
   rcases Nat.lt_or_ge j1 L.length with hh | hh
   · exact hh
   · rw [qht hh] at hp0
     exact absurd hp0 (by decide)
 have hp : hdT (L.drop j1) 2 rpar = true := by rw [qep,decide_eq_true hlt1,hp0]; rfl
 have hsh := qq8 hK2 hM2 hp
 refine kS ?_;refine oV ?_;refine oC trivial rfl call172 rfl (qer b j1 vall us2 vi vl vo ua2 0 n2 K2 hK2 hok2 (by omega) hn2) (by repeat constructor) ?_;rintro _ _ _ hx5 ⟨rfl,rfl,us3,ua3,n3,rfl,hc3,hok3,hn3,hb3⟩;refine oN (tC (cS (cS ?_)))
 have hK3 := qdl (b := 0) (all := n2.map qd.c) hK2
 rw [← hc3] at hsh
 generalize (q8 0 K2 (n2.map qd.c)).1 = K3 at hsh hK3 hb3 ⊢
 rcases K3 with _ | ⟨f,K4⟩
 ·
  refine cR ?_;refine oV ?_;refine oC trivial rfl call197 rfl (qkh b j1 vall us3 vi vl vo ua3 (stk [] ++ [odI (vq n3)]) (Nat.le_refl 1)) (by repeat constructor) ?_;rintro _ _ _ hx6 ⟨rfl,rfl,rfl⟩;iterate 3 refine oV ?_
  refine qq trivial rfl zeroValue204 rfl (fun b5 => ?_);refine oS sizeOf204 ?_;refine oV ?_;refine nS ?_;iterate 2 refine oV ?_
  refine' oZ (fun hb39 => ?_) ?_;rotate_left
  ·
   have fb39 := hb39
   try simp only [bl] at fb39
   refine gF hb39 2 underlying204 sizeOf4 ?_;refine gL hb39 isAgg4 ?_;refine gV hb39 ?_;refine oN ?_;exact qa rfl
  refine nT ?_;refine zp rfl (by rfl) ?_;refine sR ?_;refine oV ?_;refine oN (tC (cT (tR (qb (tR (qb ?_))))));refine ret1 rfl rfl ?_;exact fun w' hw' => ⟨I,[rdB b vall j1 us3 vi vl vo ua3,skR us3 (stk [] ++ [odI (vq n3)]),ndR ua3 n3],hw'.sort (by repeat constructor),Ext.refl _ _,rfl,false,j1,us3,ua3,n3,_,rfl,rfl,hj1,fun _ => hsh,fun h => by cases h⟩
 rw [qhz]
 have hst4 := qct K4
 have hpf := qkq f
 simp only [List.length_cons] at hb3
 have hsl : (stk K4 ++ preF f).length ≤ 80000 := by rw [List.length_append]; omega
 have hsl2 : (stk K4 ++ preF f ++ [opI (opK f) (opP f) (opB f)]).length ≤ 80001 := by rw [List.length_append]; exact Nat.succ_le_succ hsl
 refine cR ?_;refine oV ?_;refine oC trivial rfl call197 rfl (qki b j1 vall us3 vi vl vo ua3 (odI (vq n3)) (opK f) (opP f) (opB f) (stk K4 ++ preF f) (by omega)) (by repeat constructor) ?_;rintro _ _ _ hx6 ⟨rfl,rfl,rfl⟩;iterate 3 refine oV ?_
 refine qq trivial rfl zeroValue204 rfl (fun b5 => ?_);refine oS sizeOf204 ?_;refine oV ?_;refine nS ?_;iterate 2 refine oV ?_
 refine' oZ (fun hb39 => ?_) ?_;rotate_left
 ·
  have fb39 := hb39
  try simp only [bl] at fb39
  refine gF hb39 2 underlying204 sizeOf4 ?_;refine gL hb39 isAgg4 ?_;refine gV hb39 ?_;refine oN ?_;exact qa rfl
 refine nT ?_;refine cC rfl (fun h3 => ?_) (fun h3 => ?_)
 ·
  have f3 := h3;try simp only [bl] at f3
  have hbr : opB f = false := by simpa [bl] using h3
  have hfin : o = .bad (L.drop j1) := by
    cases f with
    | br => cases hbr
    | neg => exact hsh
    | bin k a => exact hsh
  refine sR ?_;refine oV ?_;refine oN (tC (cT (tR (qb (tR (qb ?_))))));refine ret1 rfl rfl ?_;exact fun w' hw' => ⟨I,[rdB b vall j1 us3 vi vl vo ua3,skR us3 (stk K4 ++ preF f ++ [opI (opK f) (opP f) (opB f)] ++ [odI (vq n3)]),ndR ua3 n3],hw'.sort (by repeat constructor),Ext.refl _ _,rfl,false,j1,us3,ua3,n3,_,rfl,rfl,hj1,fun _ => hfin,fun h => by cases h⟩
 have f3 := h3;try simp only [bl] at f3
 have hbr : opB f = true := by simpa [bl] using h3
 have hfb : f = .br := by
   cases f with
   | br => rfl
   | neg => cases hbr
   | bin k a => cases hbr
 subst hfb
 refine kS ?_;iterate 2 refine oV ?_
 refine oF 1 underlying101 sizeOf3 ?_;refine oL isAgg3 ?_
 (refine qh trivial rfl rfl rfl ?_ ?_; (omega))
 refine oV ?_;refine oF 1 underlying101 sizeOf3 ?_;refine oS sizeOf3 ?_;refine nS ?_;refine oV ?_;refine oC trivial rfl call198 rfl (qeq b (j1 + 1) vall us3 vi vl vo ua3 (odI (vq n3)) (stk K4 ++ preF .br ++ [opI (opK .br) (opP .br) (opB .br)]) (by omega)) (by repeat constructor) ?_;rintro _ _ _ hx7 ⟨rfl,rfl,us4,rfl⟩;refine oV ?_;refine nS ?_;refine oV ?_;refine oC trivial rfl call198 rfl (qeq b (j1 + 1) vall us4 vi vl vo ua3 (opI (opK .br) (opP .br) (opB .br)) (stk K4 ++ preF .br) (by omega)) (by repeat constructor) ?_;rintro _ _ _ hx8 ⟨rfl,rfl,us5,rfl⟩;refine nR ?_;iterate 2 refine oV ?_
 refine oC trivial rfl call173 rfl (qdm b (j1 + 1) vall us5 vi vl vo ua3 (.int .i64 (vq n3)) 245 (stk K4 ++ preF .br) (by omega)) (by repeat constructor) ?_;rintro _ _ _ hx9 ⟨rfl,rfl,us6,rfl⟩;refine oN (qg ?_);exact ql (j1 + 1,K4,n3,us6,ua3) (sC rfl sN) (fun _ h => by simp only [preF,List.append_nil] at h; exact h.sort (by repeat constructor)) (by (show L.length - (j1 + 1) < L.length - j1; omega)) ⟨by show j1 + 1 ≤ _; omega,qq9 hK3,hok3,hn3,by show n3.length + K4.length ≤ j1 + 1; omega,hsh,by show i ≤ j1 + 1; omega⟩
def qa7 (s : ByteArray) : Int := if s.toList == zk.toList then 2 else if s.toList == vf.toList then 3 else if s.toList == qaa.toList then 4 else if s.toList == qa3.toList then 5 else 0
theorem q0z {x : Tok} (h : x.kind ≠ 2 ∨ qa7 x.text = 0) : mulK x = none ∧ addK x = none := by
 unfold mulK addK isT
 rcases h with h | h
 · have e : (x.kind == 2) = false := by simpa using h
   rw [e]
   exact ⟨rfl,rfl⟩
 · unfold qa7 at h
   split at h
   · omega
   · rename_i h1
     split at h
     · omega
     · rename_i h2
       split at h
       · omega
       · rename_i h3
         split at h
         · omega
         · rename_i h4
           rw [Bool.not_eq_true] at h1 h2 h3 h4
           rw [h1,h2,h3,h4,Bool.and_false]
           exact ⟨rfl,rfl⟩
theorem q00 {x : Tok} (hk : x.kind = 2) (h : qa7 x.text ≠ 0) : (mulK x = some (qa7 x.text) ∧ ze (qa7 x.text) = 2) ∨ (addK x = some (qa7 x.text) ∧ ze (qa7 x.text) = 1) := by
 have e : (x.kind == 2) = true := by simpa using hk
 have hsk : ∀ {a b : ByteArray}, a.toList ≠ b.toList → (x.text.toList == a.toList) = true → (x.text.toList == b.toList) = false := fun {a b} hab h1 => by
   rw [beq_iff_eq] at h1
   rw [beq_eq_false_iff_ne,h1]
   exact hab
 have d1 : zk.toList ≠ qaa.toList := by rw [ByteArray.toList_eq,ByteArray.toList_eq]; decide
 have d2 : zk.toList ≠ qa3.toList := by rw [ByteArray.toList_eq,ByteArray.toList_eq]; decide
 have d3 : vf.toList ≠ qaa.toList := by rw [ByteArray.toList_eq,ByteArray.toList_eq]; decide
 have d4 : vf.toList ≠ qa3.toList := by rw [ByteArray.toList_eq,ByteArray.toList_eq]; decide
 unfold mulK addK isT
 rw [e]
 simp only [Bool.true_and]
 unfold qa7 at h ⊢
 by_cases h1 : (x.text.toList == zk.toList) = true
 · right; rw [if_pos h1,if_pos h1]; exact ⟨rfl,by decide⟩
 · rw [if_neg h1] at h ⊢
   rw [if_neg h1]
   by_cases h2 : (x.text.toList == vf.toList) = true
   · right; rw [if_pos h2,if_pos h2]; exact ⟨rfl,by decide⟩
   · rw [if_neg h2] at h ⊢
     by_cases h3 : (x.text.toList == qaa.toList) = true
     · left; rw [if_pos h3,if_pos h3]; exact ⟨rfl,by decide⟩
     · rw [if_neg h3] at h ⊢
       rw [if_neg h3]
       by_cases h4 : (x.text.toList == qa3.toList) = true
       · left; rw [if_pos h4,if_pos h4]; exact ⟨rfl,by decide⟩
       · rw [if_neg h4] at h; exact absurd rfl h
theorem q01 {L : List Tok} {K : List Fr} {all : List NodeC} {j : Nat} {o : POut} {k : Int} (hK : FrOk K) (h : RunM K true all (L.drop j) o) (hlt : j < L.length) (hkind : (tkAt L j).kind = 2) (hk : k = qa7 (tkAt L j).text) (h0 : k ≠ 0) :
   RunE (.bin k (vr (q8 (ze k) K all).2) :: (q8 (ze k) K all).1) (q8 (ze k) K all).2 (L.drop (j + 1)) o ∧ 2 ≤ k ∧ k ≤ 5 := by
 rw [yq hlt] at h
 subst hk
 rcases q00 hkind h0 with ⟨h1,h2⟩ | ⟨h1,h2⟩
 · rw [h2]; exact ⟨h.mul hK h1,qkd h1⟩
 · rw [h2]; exact ⟨h.add hK h1,qke h1⟩
theorem q02 {L : List Tok} {j : Nat} (h : ¬ (j < L.length ∧ (tkAt L j).kind = 2 ∧ qa7 (tkAt L j).text ≠ 0)) : hdK mulK (L.drop j) = none ∧ hdK addK (L.drop j) = none := by
 by_cases hlt : j < L.length
 · rw [yq hlt]
   refine q0z ?_
   by_cases hk : (tkAt L j).kind = 2
   · right
     by_cases hs : qa7 (tkAt L j).text = 0
     · exact hs
     · exact absurd ⟨hlt,hk,hs⟩ h
   · exact .inl hk
 · rw [List.drop_eq_nil_of_le (by omega)]
   exact ⟨rfl,rfl⟩
theorem q03 {K : List Fr} (h : (stk K).length = 0) : K = [] := by
 cases K with
 | nil => rfl
 | cons f K => cases f <;> simp [stk,encF] at h
theorem q04 (b i : Nat) (vall vi vl vo va : Value) (ns : List qd) (L : List Tok) {I : Hp} (hM : Mx I) (hE : Errs I) (hL : Slc I 4 vall (L.map Tok.cells)) (hn : L.length ≤ 10000) (hs : zg L) (hto : yz L) (hok : ∀ o ∈ ns, o.ok I) (hb : ns.length ≤ i) (hi : i ≤ L.length) {o : POut} (h : RunE [] (ns.map qd.c) (L.drop i) o) :
   Fun prog 141 [.pointer (some ⟨b,0,none⟩)] I [rdB b vall i (.slice none 0 0) vi vl vo va,ndR va ns]
   (fun v I' B' => ∃ ok i' vs' va' ns',v = .bool ok ∧ B' = [rdB b vall i' vs' vi vl vo va',ndR va' ns'] ∧ i' ≤ L.length ∧ (ok = false → o = .bad (L.drop i')) ∧ (ok = true → o = .ok (ns'.map qd.c) (L.drop i') ∧ vs' = .slice none 0 0 ∧ (∀ o ∈ ns',o.ok I') ∧ ns'.length ≤ i' ∧ i < i')) := by
 intro w hw
 refine qn _ func141 rfl ntmps141 rfl ?_ hw;refine sR ?_;refine oV ?_;refine oN (tC (cS (cB ?_)));refine qt (ι := Nat × List Fr × List qd × Value × Value × Hp) [0] (.cons rfl .nil) (fun x => L.length - x.1) (fun x E0 => E0) (fun x => St w (jb [rdB b vall i (.slice none 0 0) vi vl vo va,ndR va ns]) x.2.2.2.2.2 [rdB b vall x.1 x.2.2.2.1 vi vl vo x.2.2.2.2.1,skR x.2.2.2.1 (stk x.2.1),ndR x.2.2.2.2.1 x.2.2.1]) (fun x => x.1 ≤ L.length ∧ FrOk x.2.1 ∧ (∀ o ∈ x.2.2.1,o.ok x.2.2.2.2.2) ∧ x.2.2.1.length + x.2.1.length ≤ x.1 ∧ RunE x.2.1 (x.2.2.1.map qd.c) (L.drop x.1) o ∧ Ext w.heap.size I x.2.2.2.2.2 ∧ i ≤ x.1) ((i,[],ns,.slice none 0 0,va,I)) (sC rfl sN) (fun _ h => (h.nilRow 20 1).sort (by repeat constructor)) (⟨hi,trivial,hok,hb,h,Ext.refl _ _,Nat.le_refl _⟩) ?_;rintro ⟨j,K1,n0,us,ua,I1⟩ ⟨hj,hK1,hok0,hb0,hr,hx1,hij⟩
 try dsimp only
 simp only at hj hK1 hok0 hb0 hr hx1 hij; have hst := qct K1
 refine cB (cS (sR ?_));refine oV ?_;refine oC trivial rfl call169 rfl (q0v b j vall us vi vl vo ua n0 K1 L (hM.le hx1.le) (hL.le hx1.le) hn hs hto hK1 hok0 hb0 hj hr) (by repeat constructor) ?_;rintro _ I2 _ hx2 ⟨ok1,j1,us1,ua1,n1,Kv1,rfl,rfl,hj1,hno1,hyes1⟩;refine oV ?_;refine qf2 trivial rfl rfl (fun hb10 => ?_) (fun hb10 => ?_)
 ·
  have fb10 := hb10
  try simp only [bl] at fb10
  have hk1 : ok1 = false := by simpa using hb10
  iterate 3 refine qdy (qem rfl rfl rfl) rfl ?_
  refine oV ?_;refine nT ?_;refine zp rfl rfl ?_;refine sR ?_;refine oV ?_;refine oN (tC (cT (tR (qb (tR (qb (tR ?_)))))));refine ret1 rfl rfl ?_;exact fun w' hw' => ⟨I2,[rdB b vall j1 us1 vi vl vo ua1,ndR ua1 n1],hw'.sort (by repeat constructor),hx1.trans hx2 (Nat.le_refl _),false,j1,_,ua1,n1,rfl,rfl,hj1,fun _ => hno1 hk1,fun h => by cases h⟩
 have fb10 := hb10
 try simp only [bl] at fb10
 have hk1 : ok1 = true := by simpa using hb10
 obtain ⟨K2,hRd,hA,hlt1⟩ := hyes1 hk1
 obtain rfl := hRd.kv
 refine o_pv (wS rfl rfl rfl) rfl rfl ?_;refine oC (wS rfl rfl rfl) rfl call170 rfl (q0y b j1 vall us1 vi vl vo ua1 n1 K2 L (hE.le (hx1.le.trans hx2.le)) (hL.le (hx1.le.trans hx2.le)) hn hs hto hRd.fr hRd.ok hRd.pos hRd.few hj1 hA) (by repeat constructor) ?_;rintro _ _ _ hx3 ⟨rfl,ok2,j2,us2,ua2,n2,Kv2,rfl,rfl,hj2,hno2,hyes2⟩;refine o_pv (wS rfl rfl rfl) rfl rfl ?_;refine oV ?_;refine nT ?_;refine cC rfl (fun h1 => ?_) (fun h1 => ?_)
 ·
  have f1 := h1;try simp only [bl] at f1
  have hk2 : ok2 = false := by simpa using f1
  refine sR ?_;refine oV ?_;refine oN (tC (cT (tR (qb (tR (qb (tR ?_)))))));refine ret1 rfl rfl ?_;exact fun w' hw' => ⟨I2,[rdB b vall j2 us2 vi vl vo ua2,ndR ua2 n2],hw'.sort (by repeat constructor),hx1.trans hx2 (Nat.le_refl _),false,j2,_,ua2,n2,rfl,rfl,hj2,fun _ => hno2 hk2,fun h => by cases h⟩
 have f1 := h1;try simp only [bl] at f1
 have hk2 : ok2 = true := by simpa using f1
 obtain ⟨K3,hRd3,hM3,hp3,hj12⟩ := hyes2 hk2
 obtain rfl := hRd3.kv
 have hf3 := hRd3.few
 have hp1 := hRd3.pos
 refine kS ?_;refine oV ?_;refine oC trivial rfl call59 rfl (qb1 b j2 vall us2 vi vl vo ua2 L (hL.le (hx1.le.trans hx2.le))) (by repeat constructor) ?_;rintro _ _ _ hx4 ⟨rfl,rfl,rfl⟩;iterate 3 refine oV ?_
 refine qq trivial rfl zeroValue103 rfl (fun b3 => ?_);refine oS sizeOf103 ?_;refine oV ?_;refine nS ?_;refine oF 1 underlying103 sizeOf9 ?_;refine oL isAgg9 ?_;refine oI call171 rfl (qzk _) ?_;rintro _ _ hx5 ⟨rfl,k,rfl,hk⟩;iterate 3 refine oV ?_
 refine qq trivial rfl zeroValue204 rfl (fun b5 => ?_);refine oS sizeOf204 ?_;refine oV ?_;refine nU ?_;iterate 2 refine oV ?_
 refine' oZ (fun hb28 => ?_) ?_;rotate_left
 ·
  have fb28 := hb28
  try simp only [bl] at fb28
  refine gF hb28 0 underlying103 sizeOf3 ?_;refine gL hb28 isAgg3 ?_;refine gV hb28 ?_;refine oN ?_;exact qa rfl
 refine' oZ (fun hb33 => ?_) ?_;rotate_left
 ·
  have fb33 := hb33
  try simp only [bl] at fb33
  iterate 2 refine gV hb33 ?_
  refine oN ?_;exact qa rfl
 refine nT ?_;refine cC rfl (fun h2 => ?_) (fun h2 => ?_)
 ·
  have f2 := h2;try simp only [bl] at f2
  have hnm := q02 (L := L) (j := j2) (fun hh => by
    have h3 := qkj h2
    rw [decide_eq_true hh.1,hh.2.1,decide_eq_true (show k ≠ 0 from by rw [hk]; exact hh.2.2)] at h3
    simp at h3)
  refine qp (qc (v1 rfl (qc (qo rfl (tC (sR ?_))))));refine oV ?_;refine oC trivial rfl call172 rfl (qer b j2 vall us2 vi vl vo ua2 0 n2 K3 hRd3.fr hRd3.ok (by omega) hp1) (by repeat constructor) ?_;rintro _ _ _ hx6 ⟨rfl,rfl,us3,ua3,n3,rfl,hc3,hok3,hn3,hb3⟩;refine oN (tC (cS (cS ?_)))
  have hfin := RunM.fin hRd3.fr hM3 hnm.1 hnm.2 hp3
  rw [← hc3] at hfin
  generalize (q8 0 K3 (n2.map qd.c)).1 = K4 at hfin hb3 ⊢
  refine cR ?_;iterate 2 refine oV ?_
  refine oF 2 underlying101 sizeOf99 ?_;refine oL isAgg99 ?_;refine yw trivial rfl underlying99 rfl (by repeat constructor) ?_;refine oV ?_;refine qf2 trivial rfl rfl (fun hb60 => ?_) (fun hb60 => ?_)
  ·
   have fb60 := hb60
   try simp only [bl] at fb60
   have hlen : (stk K4 ++ [odI (vq n3)]).length ≠ 1 := by
     intro e; rw [e] at hb60; cases hb60
   have hfb : o = .bad (L.drop j2) := by
     rw [if_neg (fun hh => hlen (by rw [hh.1]; rfl))] at hfin
     exact hfin
   iterate 3 refine qdy (qem rfl rfl rfl) rfl ?_
   refine oV ?_;refine nT ?_;refine zp rfl rfl ?_;refine sR ?_;refine oV ?_;refine nF ?_;refine ret1 rfl rfl ?_;exact fun w' hw' => ⟨I2,[rdB b vall j2 us3 vi vl vo ua3,ndR ua3 n3],hw'.sort (by repeat constructor),hx1.trans hx2 (Nat.le_refl _),false,j2,_,ua3,n3,rfl,rfl,hj2,fun _ => hfb,fun h => by cases h⟩
  have fb60 := hb60
  try simp only [bl] at fb60
  have hlen : (stk K4 ++ [odI (vq n3)]).length = 1 := by
    have := fb60
    omega
  have hK0 : K4 = [] := q03 (by rw [List.length_append] at hlen; change (stk K4).length + 1 = 1 at hlen; omega)
  subst hK0
  refine o_pv (wS rfl rfl rfl) rfl rfl ?_;refine oC (wS rfl rfl rfl) rfl call140 rfl (qcs b j2 vall us3 vi vl vo ua3 ye L (hL.le (hx1.le.trans hx2.le)) (by omega)) (by repeat constructor) ?_;rintro _ _ _ hx7 ⟨rfl,rfl,rfl⟩;refine o_pv (wS rfl rfl rfl) rfl rfl ?_;refine oV ?_;refine nT ?_;refine cC rfl (fun h3 => ?_) (fun h3 => ?_)
  ·
   have f3 := h3;try simp only [bl] at f3
   have hm : hdT (L.drop j2) 2 ye = false := by simpa using f3
   rw [zn hm]
   have hfb : o = .bad (L.drop j2) := by
     rw [if_neg (fun hh => by rw [hm] at hh; cases hh.2)] at hfin
     exact hfin
   refine sR ?_;refine oV ?_;refine nF ?_;refine ret1 rfl rfl ?_;exact fun w' hw' => ⟨I2,[rdB b vall j2 us3 vi vl vo ua3,ndR ua3 n3],hw'.sort (by repeat constructor),hx1.trans hx2 (Nat.le_refl _),false,j2,_,ua3,n3,rfl,rfl,hj2,fun _ => hfb,fun h => by cases h⟩
  have f3 := h3;try simp only [bl] at f3
  have hm : hdT (L.drop j2) 2 ye = true := by simpa using f3
  rw [zm hm]
  have hlt2 := jn hm
  rw [if_pos ⟨rfl,hm⟩,List.drop_drop] at hfin
  refine kS ?_;iterate 2 refine oV ?_
  refine oF 2 underlying101 sizeOf99 ?_;refine oS sizeOf99 ?_;refine nS ?_;refine oV ?_;refine nE ?_;refine ret1 rfl rfl ?_;exact fun w' hw' => ⟨I2,[rdB b vall (j2 + 1) (.slice none 0 0) vi vl vo ua3,ndR ua3 n3],hw'.sort (by repeat constructor),hx1.trans hx2 (Nat.le_refl _),true,j2 + 1,_,ua3,n3,rfl,rfl,hlt2,fun h => (by cases h),fun _ => ⟨hfin,rfl,hok3,by omega,by omega⟩⟩
 have f2 := h2;try simp only [bl] at f2
 have h3 := qkk h2
 simp only [Bool.and_eq_true,decide_eq_true_eq,beq_iff_eq] at h3
 obtain ⟨h31,h32,h33⟩ := h3
 obtain ⟨hE4,hk25⟩ := q01 hRd3.fr hM3 h31 h32 hk h33
 rw [if_neg h33]
 refine kS ?_;iterate 2 refine oV ?_
 refine oF 1 underlying101 sizeOf3 ?_;refine oL isAgg3 ?_
 (refine qh trivial rfl rfl rfl ?_ ?_; (omega))
 refine oV ?_;refine oF 1 underlying101 sizeOf3 ?_;refine oS sizeOf3 ?_;refine nS ?_;refine oV ?_;refine oF 1 underlying204 sizeOf3 ?_;refine oL isAgg3 ?_;refine oC trivial rfl call172 rfl (qer b (j2 + 1) vall us2 vi vl vo ua2 (ze k) n2 K3 hRd3.fr hRd3.ok (by omega) hp1) (by repeat constructor) ?_;rintro _ _ _ hx6 ⟨rfl,rfl,us3,ua3,n3,rfl,hc3,hok3,hn3,hb3⟩;refine nT ?_
 have hK4 := qdl (b := ze k) (all := n2.map qd.c) hRd3.fr
 rw [← hc3] at hE4
 generalize (q8 (ze k) K3 (n2.map qd.c)).1 = K4 at hE4 hK4 hb3 ⊢
 have hst4 := qct K4
 refine cR ?_;refine oV ?_;refine oA isAgg204 sizeOf204 ?_;refine qkf trivial rfl rfl (fun w => by kernel_rfl) ?_;refine oC trivial rfl call173 rfl (qdm b (j2 + 1) vall us3 vi vl vo ua3 (opV k (ze k) false) 204 (stk K4 ++ [odI (vq n3)]) (by rw [List.length_append]; show (stk K4).length + 1 ≤ _; omega)) (by repeat constructor) ?_;rintro _ _ _ hx7 ⟨rfl,rfl,us4,rfl⟩;refine oN (qg ?_);exact ql (j2 + 1,.bin k (vq n3) :: K4,n3,us4,ua3,I2) (sC rfl sN) (fun _ h => by rw [List.append_assoc] at h; exact h.sort (by repeat constructor)) (by show L.length - (j2 + 1) < L.length - j; omega) ⟨by show j2 + 1 ≤ _; omega,⟨hk25.1,hk25.2,hK4⟩,hok3,by show n3.length + (K4.length + 1) ≤ j2 + 1; omega,by rw [← qf4] at hE4; exact hE4,hx1.trans hx2 (Nat.le_refl _),by show i ≤ j2 + 1; omega⟩
theorem qlf {all : List NodeC} {r : List Tok} {o q : POut} (h : Ps .sum all r q) (ho : q.then_ o fun a2 r2 => match r2 with
     | y :: r3 => if isT y 2 ye then o = .ok a2 r3 else o = .bad r2
     | [] => o = .bad []) : RunE [] all r o := by
 cases h with
 | sum_bad h =>
   cases h with
   | product_bad h => exact ⟨_,h,ho⟩
   | product_ok h1 h2 => exact ⟨_,h1,_,h2,ho⟩
 | sum_ok h h3 =>
   cases h with
   | product_ok h1 h2 => exact ⟨_,h1,_,h2,_,h3,ho⟩
theorem q05 {L : List Tok} {all : List NodeC} {i : Nat} {o1 : LO} (h : Lt1 all (L.drop i) o1) (hN : hdN (L.drop i) = true) (hq : hdT (L.drop (i + 1)) 2 je = true) :
   ∃ o,RunE [] all (L.drop (i + 2)) o ∧ (∀ r,o = .bad r → o1 = .bad r) ∧ ∀ a r,o = .ok a r → o1 = .ok (tkAt L i).text a r := by
 have h1 := qb2 hN
 have h2 := jn hq
 rw [yq h1,yq h2] at h
 rw [yq h1] at hN
 rw [yq h2] at hq
 cases h with
 | noname h0 => simp only [hdN] at hN h0; rw [hN] at h0; cases h0
 | noeq _ h0 => rw [hq] at h0; cases h0
 | sumbad _ _ h3 => exact ⟨_,qlf h3 rfl,fun r hr => by cases hr; rfl,fun a r hr => by cases hr⟩
 | @nosemi a1 _ _ _ r1 _ _ h3 h4 =>
   refine ⟨.bad r1,qlf h3 ?_,fun r hr => by cases hr; rfl,fun a r hr => by cases hr⟩
   cases r1 with
   | nil => rfl
   | cons y r => show (if _ then _ else _); rw [if_neg (by simp only [hdT] at h4; rw [h4]; decide)]
 | ok _ _ h3 h4 =>
   refine ⟨.ok _ _,qlf h3 ?_,fun r hr => (by cases hr),fun a r hr => by cases hr; rfl⟩
   show (if _ then _ else _)
   rw [if_pos h4]
theorem q06 {L : List Tok} {all : List NodeC} {i : Nat} {o1 : LO} (h : Lt1 all (L.drop i) o1) (hN : hdN (L.drop i) = false) : o1 = .bad (L.drop i) := by
 generalize L.drop i = r at h hN
 cases h with
 | noname _ => rfl
 | noeq h1 _ => simp only [hdN] at hN; rw [hN] at h1; cases h1
 | sumbad h1 _ _ => simp only [hdN] at hN; rw [hN] at h1; cases h1
 | nosemi h1 _ _ _ => simp only [hdN] at hN; rw [hN] at h1; cases h1
 | ok h1 _ _ _ => simp only [hdN] at hN; rw [hN] at h1; cases h1
theorem q07 {L : List Tok} {all : List NodeC} {i : Nat} {o1 : LO} (h : Lt1 all (L.drop i) o1) (hN : hdN (L.drop i) = true) (hq : hdT (L.drop (i + 1)) 2 je = false) : o1 = .bad (L.drop (i + 1)) := by
 have h1 := qb2 hN
 rw [yq h1] at h hN
 generalize L.drop (i + 1) = r at h hN hq
 cases h with
 | noname h0 => rw [hN] at h0; cases h0
 | noeq _ _ => rfl
 | sumbad _ h0 _ => simp only [hdT] at hq; rw [hq] at h0; cases h0
 | nosemi _ h0 _ _ => simp only [hdT] at hq; rw [hq] at h0; cases h0
 | ok _ h0 _ _ => simp only [hdT] at hq; rw [hq] at h0; cases h0
theorem qlg (ls : List LetC) (c : LetC) : ((ls ++ [c]).map LetC.cells).flatten = (ls.map LetC.cells).flatten ++ c.cells := by simp
theorem q08 (b i : Nat) (vall vi vl vo va : Value) (ls : List LetC) (ns : List qd) (L : List Tok) {I : Hp} (hM : Mx I) (hE : Errs I) (hL : Slc I 4 vall (L.map Tok.cells)) (hn : L.length ≤ 10000) (hs : zg L) (hto : yz L) (hok : ∀ o ∈ ns, o.ok I) (hb : ns.length ≤ i) (hls : ls.length ≤ i) (hi : i ≤ L.length) {o : LO} (h : Lt1 (ns.map qd.c) (L.drop i) o) :
   Fun prog 105 [.pointer (some ⟨b,0,none⟩)] I [rdB b vall i (.slice none 0 0) vi vl vo va,ltR vl ls,ndR va ns]
   (fun v I' B' => ∃ ok i' vs' vl' va' ns' ls',v = .bool ok ∧ B' = [rdB b vall i' vs' vi vl' vo va',ltR vl' ls',ndR va' ns'] ∧ i' ≤ L.length ∧ (ok = false → o = .bad (L.drop i')) ∧ (ok = true → ∃ s,o = .ok s (ns'.map qd.c) (L.drop i') ∧ vs' = .slice none 0 0 ∧ (∀ o ∈ ns',o.ok I') ∧ ns'.length ≤ i' ∧ ls' = ls ++ [⟨s,vq ns'⟩] ∧ i < i')) := by
 intro w hw
 refine qn _ func105 rfl ntmps105 rfl ?_ hw;refine sR ?_;refine oV ?_;refine nS ?_;refine oV ?_;refine oC trivial rfl call139 rfl (qkp b i vall (.slice none 0 0) vi vl vo va L hL (by omega) hs) (by repeat constructor) ?_;rintro _ _ _ hx1 ⟨rfl,rfl,rfl⟩;iterate 5 refine oV ?_
 refine nU ?_;iterate 2 refine oV ?_
 refine qf2 trivial rfl rfl (fun hb12 => ?_) (fun hb12 => ?_)
 ·
  have fb12 := hb12
  try simp only [bl] at fb12
  have hN : hdN (L.drop i) = false := by simpa using hb12
  rw [zn hN]
  iterate 3 refine qdy (qem rfl rfl rfl) rfl ?_
  iterate 2 refine oV ?_
  iterate 3 refine qdy (qem rfl rfl rfl) rfl ?_
  refine oV ?_;refine nT ?_;refine zp rfl rfl ?_;refine sR ?_;refine oV ?_;refine nF ?_;refine ret1 rfl rfl ?_;exact fun w' hw' => ⟨I,[rdB b vall i (.slice none 0 0) vi vl vo va,ltR vl ls,ndR va ns],hw'.sort (by repeat constructor),Ext.refl _ _,false,i,_,vl,va,ns,ls,rfl,rfl,hi,fun _ => q06 h hN,fun h => by cases h⟩
 have fb12 := hb12
 try simp only [bl] at fb12
 have hN : hdN (L.drop i) = true := by simpa using hb12
 rw [zm hN]
 have hlt := qb2 hN
 refine o_pv (wS rfl rfl rfl) rfl rfl ?_;refine oC (wS rfl rfl rfl) rfl call140 rfl (qcs b (i + 1) vall (.slice none 0 0) vi vl vo va je L hL (by omega)) (by repeat constructor) ?_;rintro _ _ _ hx2 ⟨rfl,rfl,rfl⟩;refine o_pv (wS rfl rfl rfl) rfl rfl ?_;refine oV ?_;refine qf2 trivial rfl rfl (fun hb17 => ?_) (fun hb17 => ?_)
 ·
  have fb17 := hb17
  try simp only [bl] at fb17
  have hq : hdT (L.drop (i + 1)) 2 je = false := by simpa using hb17
  rw [zn hq]
  iterate 3 refine qdy (qem rfl rfl rfl) rfl ?_
  refine oV ?_;refine nT ?_;refine zp rfl rfl ?_;refine sR ?_;refine oV ?_;refine nF ?_;refine ret1 rfl rfl ?_;exact fun w' hw' => ⟨I,[rdB b vall (i + 1) (.slice none 0 0) vi vl vo va,ltR vl ls,ndR va ns],hw'.sort (by repeat constructor),Ext.refl _ _,false,i + 1,_,vl,va,ns,ls,rfl,rfl,hlt,fun _ => q07 h hN hq,fun h => by cases h⟩
 have fb17 := hb17
 try simp only [bl] at fb17
 have hq : hdT (L.drop (i + 1)) 2 je = true := by simpa using hb17
 rw [zm hq]
 have hlt2 := jn hq
 obtain ⟨o2,hr2,ho2,ho3⟩ := q05 h hN hq
 refine o_pv (wS rfl rfl rfl) rfl rfl ?_;refine oC (wS rfl rfl rfl) rfl call141 rfl (q04 b (i + 1 + 1) vall vi vl vo va ns L hM hE hL hn hs hto hok (by omega) (by omega) hr2) (by repeat constructor) ?_;rintro _ I2 _ hx3 ⟨ok2,j,us,ua,n2,rfl,rfl,hj,hno,hyes⟩;refine o_pv (wS rfl rfl rfl) rfl rfl ?_;refine oV ?_;refine nT ?_;refine cC rfl (fun h1 => ?_) (fun h1 => ?_)
 ·
  have f1 := h1;try simp only [bl] at f1
  have hk : ok2 = false := by simpa using f1
  refine sR ?_;refine oV ?_;refine nF ?_;refine ret1 rfl rfl ?_;exact fun w' hw' => ⟨I2,[rdB b vall j us vi vl vo ua,ltR vl ls,ndR ua n2],hw'.sort (by repeat constructor),hx3,false,j,_,vl,ua,n2,ls,rfl,rfl,hj,fun _ => ho2 _ (hno hk),fun h => by cases h⟩
 have f1 := h1;try simp only [bl] at f1
 have hk : ok2 = true := by simpa using f1
 obtain ⟨he,rfl,hok2,hb2,hlt3⟩ := hyes hk
 rw [if_pos hN]
 refine cK (tC (cS ?_));refine zu (m := 21) [ndR ua n2] (by repeat constructor) (by kernel_rfl) rfl ?_;refine qT (i := 0) (qB 21 1) (Hp.Le.refl _) rfl rfl (oV qF) ?_;refine qT (i := 1) (qB 21 3) (Hp.Le.refl _) rfl rfl (oV qF) ?_;refine qT (i := 2) (qB 21 7) (Hp.Le.refl _) rfl rfl (oV qF) ?_;refine qT (i := 3) (qB 21 15) (Hp.Le.refl _) rfl rfl (oF 3 underlying101 sizeOf26 qF) ?_;refine qT (i := 4) (qB 21 31) (Hp.Le.refl _) rfl rfl (oF 1 underlying26 sizeOf23 qF) ?_;refine qT (i := 6) (qB 21 95) (Hp.Le.refl _) rfl rfl (oV qF) ?_;refine qT (i := 7) (qB 21 223) (Hp.Le.refl _) rfl rfl (oV qF) ?_;refine qT (i := 8) (qB 21 479) (Hp.Le.refl _) rfl rfl (oV qF) ?_;refine qT (i := 9) (qB 21 991) (Hp.Le.refl _) rfl rfl (oF 3 underlying101 sizeOf26 qF) ?_;refine qT (i := 10) (qB 21 2015) (Hp.Le.refl _) rfl rfl (oF 3 underlying26 sizeOf24 qF) ?_;refine h_go [5,11] (by kernel_rfl) rfl (TWHs.cons ?_ (TWHs.cons ?_ TWHs.nil))
 ·
  refine qP (qB 21 2047) rfl ?_;refine oL isAgg23 ?_;refine qM (Hp.Le.refl _) ?_;refine qO (i := 11) (qB 21 4095) rfl ?_;refine oL isAgg24 ?_;refine qM (Hp.Le.refl _) ?_;refine qT (i := 12) (qB 21 8191) (Hp.Le.refl _) rfl rfl (yw trivial rfl underlying24 rfl (by repeat constructor) qF) ?_;refine' qT (i := 13) (qB 21 16383) (Hp.Le.refl _) rfl rfl ?hh0 ?kk0
  case hh0 =>
   (refine vp trivial rfl rfl rfl ?_ ?_; (omega))
   exact qF
  refine qT (i := 14) (qB 21 32767) (Hp.Le.refl _) rfl rfl (qw trivial rfl (qod) rfl (.cons rfl rfl rfl (by repeat constructor) (.cons rfl rfl rfl (by repeat constructor) .nil)) qF) ?_;refine qO (i := 15) (qB 21 65535) rfl ?_;refine oB underlying23 sizeOf39 zeroValue39 fun b37 => ?_;refine qM (Hp.Le.refl _) ?_;refine qO (i := 16) (qB 21 131071) rfl ?_;refine oD underlying23 qjs fun v38 => ?_;refine qM (Hp.Le.refl _) ?_;refine qT (i := 17) (qB 21 262143) (Hp.Le.refl _) rfl rfl (oV qF) ?_;refine qT (i := 18) (qB 21 524287) (Hp.Le.refl _) rfl rfl (oF 3 underlying101 sizeOf26 qF) ?_;refine qT (i := 19) (qB 21 1048575) (Hp.Le.refl _) rfl rfl (oF 1 underlying26 sizeOf23 qF) ?_;refine qO (i := 20) (qB 21 2097151) rfl ?_;refine j6 (u := v38) (by repeat constructor) (fun hcv => ?_);refine yn trivial rfl rfl (hcv).1 sizeOf23 (hcv).2 (by repeat constructor) (by exact Nat.le_of_ble_eq_true rfl) ?_;refine qM (Hp.Le.refl _) ?_;refine jc (by kernel_rfl) ?_;refine tC (sR ?_);refine oV ?_;refine nE ?_;refine ret1 rfl rfl ?_
  (exact fun w' hw' => ⟨I2,[rdB b vall j (.slice none 0 0) vi v38 vo ua,ltR v38 (ls ++ [⟨(tkAt L i).text,vq n2⟩]),ndR ua n2],(by unfold ltR; rw [qlg,List.length_append]; exact hw'.sort (by repeat constructor)),hx3,true,j,_,v38,ua,n2,_,rfl,rfl,hj,fun h => (by cases h),fun _ => ⟨_,ho3 _ _ he,rfl,hok2,hb2,rfl,by omega⟩⟩)
 refine qP (qB 21 4063) rfl ?_;refine oL isAgg24 ?_;refine qM (Hp.Le.refl _) ?_;refine qT (i := 12) (qB 21 8159) (Hp.Le.refl _) rfl rfl (yw trivial rfl underlying24 rfl (by repeat constructor) qF) ?_;refine' qT (i := 13) (qB 21 16351) (Hp.Le.refl _) rfl rfl ?hh1 ?kk1
 case hh1 =>
  (refine vp trivial rfl rfl rfl ?_ ?_; (omega))
  exact qF
 refine qT (i := 14) (qB 21 32735) (Hp.Le.refl _) rfl rfl (qw trivial rfl (qod) rfl (.cons rfl rfl rfl (by repeat constructor) (.cons rfl rfl rfl (by repeat constructor) .nil)) qF) ?_;refine h_go [5,15] (by kernel_rfl) rfl (TWHs.cons ?_ (TWHs.cons ?_ TWHs.nil))
 ·
  refine qP (qB 21 32767) rfl ?_;refine oL isAgg23 ?_;refine qM (Hp.Le.refl _) ?_;refine qO (i := 15) (qB 21 65535) rfl ?_;refine oB underlying23 sizeOf39 zeroValue39 fun b37 => ?_;refine qM (Hp.Le.refl _) ?_;refine qO (i := 16) (qB 21 131071) rfl ?_;refine oD underlying23 qjs fun v38 => ?_;refine qM (Hp.Le.refl _) ?_;refine qT (i := 17) (qB 21 262143) (Hp.Le.refl _) rfl rfl (oV qF) ?_;refine qT (i := 18) (qB 21 524287) (Hp.Le.refl _) rfl rfl (oF 3 underlying101 sizeOf26 qF) ?_;refine qT (i := 19) (qB 21 1048575) (Hp.Le.refl _) rfl rfl (oF 1 underlying26 sizeOf23 qF) ?_;refine qO (i := 20) (qB 21 2097151) rfl ?_;refine j6 (u := v38) (by repeat constructor) (fun hcv => ?_);refine yn trivial rfl rfl (hcv).1 sizeOf23 (hcv).2 (by repeat constructor) (by exact Nat.le_of_ble_eq_true rfl) ?_;refine qM (Hp.Le.refl _) ?_;refine jc (by kernel_rfl) ?_;refine tC (sR ?_);refine oV ?_;refine nE ?_;refine ret1 rfl rfl ?_
  (exact fun w' hw' => ⟨I2,[rdB b vall j (.slice none 0 0) vi v38 vo ua,ltR v38 (ls ++ [⟨(tkAt L i).text,vq n2⟩]),ndR ua n2],(by unfold ltR; rw [qlg,List.length_append]; exact hw'.sort (by repeat constructor)),hx3,true,j,_,v38,ua,n2,_,rfl,rfl,hj,fun h => (by cases h),fun _ => ⟨_,ho3 _ _ he,rfl,hok2,hb2,rfl,by omega⟩⟩)
 refine qP (qB 21 65503) rfl ?_;refine oB underlying23 sizeOf39 zeroValue39 fun b37 => ?_;refine qM (Hp.Le.refl _) ?_;refine qO (i := 5) (qB 21 65535) rfl ?_;refine oL isAgg23 ?_;refine qM (Hp.Le.refl _) ?_;refine qO (i := 16) (qB 21 131071) rfl ?_;refine oD underlying23 qjs fun v38 => ?_;refine qM (Hp.Le.refl _) ?_;refine qT (i := 17) (qB 21 262143) (Hp.Le.refl _) rfl rfl (oV qF) ?_;refine qT (i := 18) (qB 21 524287) (Hp.Le.refl _) rfl rfl (oF 3 underlying101 sizeOf26 qF) ?_;refine qT (i := 19) (qB 21 1048575) (Hp.Le.refl _) rfl rfl (oF 1 underlying26 sizeOf23 qF) ?_;refine qO (i := 20) (qB 21 2097151) rfl ?_;refine j6 (u := v38) (by repeat constructor) (fun hcv => ?_);refine yn trivial rfl rfl (hcv).1 sizeOf23 (hcv).2 (by repeat constructor) (by exact Nat.le_of_ble_eq_true rfl) ?_;refine qM (Hp.Le.refl _) ?_;refine jc (by kernel_rfl) ?_;refine tC (sR ?_);refine oV ?_;refine nE ?_;refine ret1 rfl rfl ?_
 (exact fun w' hw' => ⟨I2,[rdB b vall j (.slice none 0 0) vi v38 vo ua,ltR v38 (ls ++ [⟨(tkAt L i).text,vq n2⟩]),ndR ua n2],(by unfold ltR; rw [qlg,List.length_append]; exact hw'.sort (by repeat constructor)),hx3,true,j,_,v38,ua,n2,_,rfl,rfl,hj,fun h => (by cases h),fun _ => ⟨_,ho3 _ _ he,rfl,hok2,hb2,rfl,by omega⟩⟩)
def q09 (ins : List ByteArray) (o : PO) (ls : List LetC) (all : List NodeC) (r2 : List Tok) : Prop :=
 (hdT r2 0 outS = false → o = .bad r2) ∧ (hdT r2 0 outS = true → (∀ r3,q9 (r2.drop 1) = .bad r3 → o = .bad r3) ∧ (∀ outs r3,q9 (r2.drop 1) = .ok outs r3 → (r3 = [] → o = .ok ⟨ins,ls,outs,all⟩) ∧ (r3 ≠ [] → o = .bad r3)))
theorem q1a {r : List Tok} {o : PO} (h : Prg r o) : (hdT r 0 inS = false → o = .bad r) ∧ (hdT r 0 inS = true → (∀ r1,q9 (r.drop 1) = .bad r1 → o = .bad r1) ∧ ∀ ins r1,q9 (r.drop 1) = .ok ins r1 → ∃ oL,Lts [] [] r1 oL ∧ (∀ r2,oL = .bad r2 → o = .bad r2) ∧ ∀ ls all r2,oL = .ok ls all r2 → q09 ins o ls all r2) := by
 cases h with
 | noin h0 => exact ⟨fun _ => rfl,fun h => by rw [h0] at h; cases h⟩
 | insbad h0 h1 =>
   refine ⟨fun h => (by simp only [hdT] at h; rw [h0] at h; cases h),fun _ => ⟨fun r1 hr => (by simp only [List.drop_one,List.tail_cons] at hr; rw [h1] at hr; cases hr; rfl),fun ins r1 hr => by simp only [List.drop_one,List.tail_cons] at hr; rw [h1] at hr; cases hr⟩⟩
 | letsbad h0 h1 h2 =>
   refine ⟨fun h => (by simp only [hdT] at h; rw [h0] at h; cases h),fun _ => ⟨fun r1 hr => (by simp only [List.drop_one,List.tail_cons] at hr; rw [h1] at hr; cases hr),fun ins r1 hr => ?_⟩⟩
   simp only [List.drop_one,List.tail_cons] at hr; rw [h1] at hr; cases hr
   exact ⟨_,h2,fun r2 hr => (by cases hr; rfl),fun ls all r2 hr => by cases hr⟩
 | noout h0 h1 h2 h3 =>
   refine ⟨fun h => (by simp only [hdT] at h; rw [h0] at h; cases h),fun _ => ⟨fun r1 hr => (by simp only [List.drop_one,List.tail_cons] at hr; rw [h1] at hr; cases hr),fun ins r1 hr => ?_⟩⟩
   simp only [List.drop_one,List.tail_cons] at hr; rw [h1] at hr; cases hr
   refine ⟨_,h2,fun r2 hr => (by cases hr),fun ls all r2 hr => ?_⟩
   cases hr
   exact ⟨fun _ => rfl,fun h => by rw [h3] at h; cases h⟩
 | outsbad h0 h1 h2 h3 h4 =>
   refine ⟨fun h => (by simp only [hdT] at h; rw [h0] at h; cases h),fun _ => ⟨fun r1 hr => (by simp only [List.drop_one,List.tail_cons] at hr; rw [h1] at hr; cases hr),fun ins r1 hr => ?_⟩⟩
   simp only [List.drop_one,List.tail_cons] at hr; rw [h1] at hr; cases hr
   refine ⟨_,h2,fun r2 hr => (by cases hr),fun ls all r2 hr => ?_⟩
   cases hr
   refine ⟨fun h => (by simp only [hdT] at h; rw [h3] at h; cases h),fun _ => ⟨fun r3 hr => ?_,fun outs r3 hr => ?_⟩⟩
   · simp only [List.drop_one,List.tail_cons] at hr; rw [h4] at hr; cases hr; rfl
   · simp only [List.drop_one,List.tail_cons] at hr; rw [h4] at hr; cases hr
 | tail h0 h1 h2 h3 h4 =>
   refine ⟨fun h => (by simp only [hdT] at h; rw [h0] at h; cases h),fun _ => ⟨fun r1 hr => (by simp only [List.drop_one,List.tail_cons] at hr; rw [h1] at hr; cases hr),fun ins r1 hr => ?_⟩⟩
   simp only [List.drop_one,List.tail_cons] at hr; rw [h1] at hr; cases hr
   refine ⟨_,h2,fun r2 hr => (by cases hr),fun ls all r2 hr => ?_⟩
   cases hr
   refine ⟨fun h => (by simp only [hdT] at h; rw [h3] at h; cases h),fun _ => ⟨fun r3 hr => ?_,fun outs r3 hr => ?_⟩⟩
   · simp only [List.drop_one,List.tail_cons] at hr; rw [h4] at hr; cases hr
   · simp only [List.drop_one, List.tail_cons] at hr; rw [h4] at hr; cases hr
     exact ⟨fun h => (by cases h),fun _ => rfl⟩
 | ok h0 h1 h2 h3 h4 =>
   refine ⟨fun h => (by simp only [hdT] at h; rw [h0] at h; cases h),fun _ => ⟨fun r1 hr => (by simp only [List.drop_one,List.tail_cons] at hr; rw [h1] at hr; cases hr),fun ins r1 hr => ?_⟩⟩
   simp only [List.drop_one,List.tail_cons] at hr; rw [h1] at hr; cases hr
   refine ⟨_,h2,fun r2 hr => (by cases hr),fun ls all r2 hr => ?_⟩
   cases hr
   refine ⟨fun h => (by simp only [hdT] at h; rw [h3] at h; cases h),fun _ => ⟨fun r3 hr => ?_,fun outs r3 hr => ?_⟩⟩
   · simp only [List.drop_one,List.tail_cons] at hr; rw [h4] at hr; cases hr
   · simp only [List.drop_one, List.tail_cons] at hr; rw [h4] at hr; cases hr
     exact ⟨fun _ => rfl,fun h => absurd rfl h⟩
theorem q1b {ls : List LetC} {all : List NodeC} {r : List Tok} {oL : LSO} (h : Lts ls all r oL) : (hdT r 0 letS = false → oL = .ok ls all r) ∧ (hdT r 0 letS = true → ∃ o1,Lt1 all (r.drop 1) o1 ∧ (∀ r1,o1 = .bad r1 → oL = .bad r1) ∧ ∀ n a1 r1,o1 = .ok n a1 r1 → Lts (ls ++ [⟨n,vr a1⟩]) a1 r1 oL) := by
 cases h with
 | fin h0 => exact ⟨fun _ => rfl,fun h => by rw [h0] at h; cases h⟩
 | bad h0 h1 => exact ⟨fun h => (by simp only [hdT] at h; rw [h0] at h; cases h),fun _ => ⟨_,h1,fun r1 hr => (by cases hr; rfl),fun n a1 r1 hr => by cases hr⟩⟩
 | more h0 h1 h2 => exact ⟨fun h => (by simp only [hdT] at h; rw [h0] at h; cases h),fun _ => ⟨_,h1,fun r1 hr => (by cases hr),fun n a1 r1 hr => by cases hr; exact h2⟩⟩
theorem qra {L : List Tok} {i' : Nat} {ok : Bool} {l : List ByteArray} {o : NOut} (h : qh7 L i' ok l o) (hk : ok = false) : o = .bad (L.drop i') := by
 cases o with
 | bad r => rw [h.2.1]
 | ok m r => rw [h.1] at hk; cases hk
theorem qlh {L : List Tok} {i' : Nat} {ok : Bool} {l : List ByteArray} {o : NOut} (h : qh7 L i' ok l o) (hk : ok = true) : o = .ok l (L.drop i') := by
 cases o with
 | bad r => rw [h.1] at hk; cases hk
 | ok m r => rw [h.2.1,h.2.2.1]
theorem qli {L : List Tok} {i' : Nat} {ok : Bool} {l : List ByteArray} {o : NOut} (h : qh7 L i' ok l o) : i' ≤ L.length := by
 cases o with
 | bad r => exact h.2.2
 | ok m r => exact h.2.2.2
abbrev N0 : Value := .slice none 0 0
theorem q1c (b : Nat) (vall : Value) (L : List Tok) {I : Hp} (hM : Mx I) (hE : Errs I) (hL : Slc I 4 vall (L.map Tok.cells)) (hn : L.length ≤ 10000) (hs : zg L) (hto : yz L) {o : PO} (h : Prg L o) :
   Fun prog 58 [.pointer (some ⟨b,0,none⟩)] I [rdB b vall 0 N0 N0 N0 N0 N0]
   (fun v I' B' => ∃ ok i' vs' vi' vl' vo' va' wi wl wo wa ins ls outs ns,v = .bool ok ∧ B' = [rdB b vall i' vs' vi' vl' vo' va',nmR wi ins,ltR wl ls,nmR wo outs,ndR wa ns] ∧ i' ≤ L.length ∧ (ok = false → o = .bad (L.drop i')) ∧ (ok = true → wi = vi' ∧ wl = vl' ∧ wo = vo' ∧ wa = va' ∧ (∀ o ∈ ns,o.ok I') ∧ o = .ok ⟨ins,ls,outs,ns.map qd.c⟩ ∧ ins.length ≤ 10000 ∧ ls.length ≤ 10000 ∧ outs.length ≤ 10000 ∧ ns.length ≤ 10000)) := by
 have hP := q1a h
 rw [← List.drop_zero (l := L)] at hP
 intro w hw
 refine qn _ func58 rfl ntmps58 rfl ?_ hw;refine sR ?_;refine oV ?_;refine nS ?_;refine oV ?_;refine nU ?_;refine oV ?_;refine oC trivial rfl call103 rfl (qkn b 0 vall N0 N0 N0 N0 N0 inS L hL (by omega)) (by repeat constructor) ?_;rintro _ _ _ hx1 ⟨rfl,rfl,rfl⟩;refine oV ?_;refine nT ?_;refine cC rfl (fun h1 => ?_) (fun h1 => ?_)
 ·
  have f1 := h1;try simp only [bl] at f1
  have hm : hdT (L.drop 0) 0 inS = false := by simpa using f1
  rw [zn hm]
  have hfin := hP.1 hm
  refine sR ?_;refine oV ?_;refine nF ?_;refine ret1 rfl rfl ?_;exact fun w' hw' => ⟨I,[rdB b vall 0 N0 N0 N0 N0 N0,nmR N0 [],ltR N0 [],nmR N0 [],ndR N0 []],((((hw'.nilRow 9 1).nilRow 39 2).nilRow 9 1).nilRow 37 8).sort (by repeat constructor),Ext.refl _ _,false,0,_,_,_,_,_,_,_,_,_,_,_,_,_,rfl,rfl,Nat.zero_le _,fun _ => hfin,fun h => by cases h⟩
 have f1 := h1;try simp only [bl] at f1
 have hm : hdT (L.drop 0) 0 inS = true := by simpa using f1
 rw [zm hm]
 have hlt := jn hm
 have hP2 := hP.2 hm
 rw [List.drop_drop] at hP2
 refine cK (tC (cS (sR ?_)));iterate 2 refine oV ?_
 refine oC trivial rfl call104 rfl (qq5 b (0 + 1) vall N0 N0 N0 N0 N0 L hL hn hs (by omega)) (by repeat constructor) ?_;rintro _ _ _ hx2 ⟨rfl,u1,ok1,j1,u1',l1,rfl,rfl,hres,hu,hcell⟩;iterate 4 refine oV ?_
 refine oF 3 underlying101 sizeOf26 ?_;refine oF 0 underlying26 sizeOf22 ?_;refine yn trivial rfl rfl (hcell).1 sizeOf22 (hcell).2 (by repeat constructor) (by exact Nat.le_of_ble_eq_true rfl) ?_;refine oV ?_;refine oN (tC (cS ?_))
 have hj1 := qli hres
 refine cR ?_;iterate 2 refine oV ?_
 refine nT ?_;refine cC rfl (fun h2 => ?_) (fun h2 => ?_)
 ·
  have f2 := h2;try simp only [bl] at f2
  have hk : ok1 = false := by simpa using f2
  have hfin := hP2.1 _ (qra hres hk)
  refine sR ?_;refine oV ?_;refine nF ?_;refine ret1 rfl rfl ?_;exact fun w' hw' => ⟨I,[rdB b vall j1 N0 u1 N0 N0 N0,nmR N0 [],ltR N0 [],nmR N0 [],ndR N0 []],((((hw'.nilRow 9 1).nilRow 39 2).nilRow 9 1).nilRow 37 8).sort (by repeat constructor),Ext.refl _ _,false,j1,_,_,_,_,_,_,_,_,_,_,_,_,_,rfl,rfl,hj1,fun _ => hfin,fun h => by cases h⟩
 have f2 := h2;try simp only [bl] at f2
 have hk : ok1 = true := by simpa using f2
 obtain ⟨rfl,hl1⟩ := hu hk
 obtain ⟨oL,hLt,hbadL,hokL⟩ := hP2.2 _ _ (qlh hres hk)
 refine cK (tC (cS (cB ?_)));refine qt (ι := Nat × List LetC × List qd × Value × Value × Hp) [0] (.cons rfl .nil) (fun x => L.length - x.1) (fun x E0 => E0) (fun x => St w (jb [rdB b vall 0 N0 N0 N0 N0 N0]) x.2.2.2.2.2 [rdB b vall x.1 N0 u1' x.2.2.2.1 N0 x.2.2.2.2.1,nmR u1' l1,ltR x.2.2.2.1 x.2.1,ndR x.2.2.2.2.1 x.2.2.1]) (fun x => x.1 ≤ L.length ∧ x.2.1.length ≤ x.1 ∧ x.2.2.1.length ≤ x.1 ∧ (∀ o ∈ x.2.2.1,o.ok x.2.2.2.2.2) ∧ Lts x.2.1 (x.2.2.1.map qd.c) (L.drop x.1) oL ∧ Ext w.heap.size I x.2.2.2.2.2) ((j1,[],[],N0,N0,I)) (sC rfl sN) (fun _ h => ((h.nilRow 39 2).nilRow 37 8).sort (by repeat constructor)) (⟨hj1,Nat.zero_le _,Nat.zero_le _,fun o ho => (by cases ho),hLt,Ext.refl _ _⟩) ?_;rintro ⟨j,ls,n0,ul,ua,I1⟩ ⟨hj,hls0,hn0,hok0,hr,hx3⟩
 try dsimp only
 simp only at hj hls0 hn0 hok0 hr hx3; have hlp := q1b hr
 refine cS (sR ?_);refine oV ?_;refine oC trivial rfl call103 rfl (qkn b j vall N0 u1' ul N0 ua letS L (hL.le hx3.le) (by omega)) (by repeat constructor) ?_;rintro _ _ _ hx4 ⟨rfl,rfl,rfl⟩;refine nT ?_;refine cC rfl (fun h3 => ?_) (fun h3 => ?_)
 ·
  have f3 := h3;try simp only [bl] at f3
  have hm3 : hdT (L.drop j) 0 letS = true := h3
  rw [zm hm3]
  have hlt3 := jn hm3
  obtain ⟨o1,hL1,hb1,hg1⟩ := hlp.2 hm3
  rw [List.drop_drop] at hL1
  refine cK (tC (cB (sR ?_)));refine oV ?_;refine oC trivial rfl call105 rfl (q08 b (j + 1) vall u1' ul N0 ua ls n0 L (hM.le hx3.le) (hE.le hx3.le) (hL.le hx3.le) hn hs hto hok0 (by omega) (by omega) (by omega) hL1) (by repeat constructor) ?_;rintro _ I2 _ hx5 ⟨ok2,j2,us2,ul2,ua2,n2,ls2,rfl,rfl,hj2,hno2,hyes2⟩;refine oV ?_;refine nT ?_;refine cC rfl (fun h4 => ?_) (fun h4 => ?_)
  ·
   have f4 := h4;try simp only [bl] at f4
   have hk4 : ok2 = false := by simpa using f4
   have hfin := hbadL _ (hb1 _ (hno2 hk4))
   refine sR ?_;refine oV ?_;refine oN (tC (cT (qb (tR (qb (tR ?_))))));refine ret1 rfl rfl ?_;exact fun w' hw' => ⟨I2,[rdB b vall j2 us2 u1' ul2 N0 ua2,nmR N0 [],ltR N0 [],nmR N0 [],ndR N0 []],((((hw'.nilRow 9 1).nilRow 39 2).nilRow 9 1).nilRow 37 8).sort (by repeat constructor),hx3.trans hx5 (Nat.le_refl _),false,j2,_,_,_,_,_,_,_,_,_,_,_,_,_,rfl,rfl,hj2,fun _ => hfin,fun h => by cases h⟩
  have f4 := h4;try simp only [bl] at f4
  have hk4 : ok2 = true := by simpa using f4
  obtain ⟨s,he,rfl,hok2,hn2,rfl,hlt4⟩ := hyes2 hk4
  refine cK (qg ?_);exact ql (j2,ls ++ [⟨s,vq n2⟩],n2,ul2,ua2,I2) (sC rfl sN) (fun _ h => h.sort (by repeat constructor)) (by show L.length - j2 < L.length - j; omega) ⟨hj2,by rw [List.length_append]; show ls.length + 1 ≤ j2; omega,hn2,hok2,by rw [qf4]; exact hg1 _ _ _ he,hx3.trans hx5 (Nat.le_refl _)⟩
 have f3 := h3;try simp only [bl] at f3
 have hm3 : hdT (L.drop j) 0 letS = false := h3
 rw [zn hm3]
 have hT := hokL _ _ _ (hlp.1 hm3)
 refine qp (qc (qc (qo rfl (tC (cS (sR ?_))))));refine oV ?_;refine oC trivial rfl call103 rfl (qkn b j vall N0 u1' ul N0 ua outS L (hL.le hx3.le) (by omega)) (by repeat constructor) ?_;rintro _ _ _ hx5 ⟨rfl,rfl,rfl⟩;refine oV ?_;refine nT ?_;refine cC rfl (fun h5 => ?_) (fun h5 => ?_)
 ·
  have f5 := h5;try simp only [bl] at f5
  have hm5 : hdT (L.drop j) 0 outS = false := by simpa using f5
  rw [zn hm5]
  have hfin := hT.1 hm5
  refine sR ?_;refine oV ?_;refine nF ?_;refine ret1 rfl rfl ?_;exact fun w' hw' => ⟨I1,[rdB b vall j N0 u1' ul N0 ua,nmR N0 [],ltR N0 [],nmR N0 [],ndR N0 []],((((hw'.nilRow 9 1).nilRow 39 2).nilRow 9 1).nilRow 37 8).sort (by repeat constructor),hx3,false,j,_,_,_,_,_,_,_,_,_,_,_,_,_,rfl,rfl,hj,fun _ => hfin,fun h => by cases h⟩
 have f5 := h5;try simp only [bl] at f5
 have hm5 : hdT (L.drop j) 0 outS = true := by simpa using f5
 rw [zm hm5]
 have hlt5 := jn hm5
 obtain ⟨hT1,hT2⟩ := hT.2 hm5
 rw [List.drop_drop] at hT1 hT2
 refine kS ?_;iterate 2 refine oV ?_
 refine oC trivial rfl call104 rfl (qq5 b (j + 1) vall N0 u1' ul N0 ua L (hL.le hx3.le) hn hs (by omega)) (by repeat constructor) ?_;rintro _ _ _ hx6 ⟨rfl,u3,ok3,j3,u3',l3,rfl,rfl,hres3,hu3,hcell3⟩;iterate 4 refine oV ?_
 refine oF 3 underlying101 sizeOf26 ?_;refine oF 2 underlying26 sizeOf22 ?_;refine yn trivial rfl rfl (hcell3).1 sizeOf22 (hcell3).2 (by repeat constructor) (by exact Nat.le_of_ble_eq_true rfl) ?_;refine oV ?_;refine oN (tC (cS ?_));refine jf (by kernel_rfl) (by kernel_rfl) (fun _ h => h.drawn) ?_;refine oV ?_;refine' oY (fun hb36 => ?_) ?_;rotate_left
 ·
  have fb36 := hb36
  try simp only [bl] at fb36
  iterate 2 refine gV hb36 ?_
  refine gF hb36 1 underlying101 sizeOf3 ?_;refine gL hb36 isAgg3 ?_;iterate 2 refine gV hb36 ?_
  refine gF hb36 0 underlying101 sizeOf95 ?_;refine gL hb36 isAgg95 ?_;refine qu (wS rfl rfl hb36) rfl underlying95 rfl (hL.le hx3.le) ?_;refine gV hb36 ?_;refine oN ?_;exact qa rfl
 refine oV ?_;refine nE ?_;refine ret1 rfl rfl ?_
 (refine fun w' hw' => ⟨I1, [rdB b vall j3 N0 u1' ul u3 ua, nmR u1' l1, ltR ul ls, nmR u3' l3, ndR ua n0], hw'.sort (by repeat constructor), hx3, _, j3, _, _, _, _, _, u1', ul, u3', ua, l1, ls, l3, n0, rfl, rfl, qli hres3, ?_, ?_⟩
  · intro hk
    cases ok3 with
    | false => exact hT1 _ (qra hres3 rfl)
    | true =>
      refine (hT2 _ _ (qlh hres3 rfl)).2 ?_
      have := qli hres3
      simp at hk
      intro e
      rw [List.drop_eq_nil_iff] at e
      omega
  · intro hk
    cases ok3 with
    | false => cases hk
    | true =>
      obtain ⟨rfl,hl3⟩ := hu3 rfl
      refine ⟨rfl,rfl,rfl,rfl,hok0,(hT2 _ _ (qlh hres3 rfl)).1 ?_,by omega,by omega,by omega,by omega⟩
      simp at hk
      exact List.drop_eq_nil_of_le (by omega))
structure qlj (s : ByteArray) (L : List Tok) : Prop where
 ok : yz L
 small : ∀ t ∈ L,t.text.size ≤ s.size
 few : L.length ≤ 4000
theorem q1d (s : ByteArray) (i : Nat) : ((tokZ s i).kind = 1 → numZ (tokZ s i).text = true) ∧ (tokZ s i).text.size ≤ s.size := by
 have hx : ∀ a b : Nat,(s.extract a b).size ≤ s.size := fun a b => by rw [ByteArray.size_extract]; omega
 unfold tokZ
 split
 · split
   · exact ⟨fun h => (by cases h),Nat.zero_le _⟩
   · exact ⟨fun h => (by cases h),hx _ _⟩
 · split
   · split
     · exact ⟨fun h => (by cases h),Nat.zero_le _⟩
     · split
       · rename_i h; exact ⟨fun _ => h,hx _ _⟩
       · exact ⟨fun h => (by cases h),Nat.zero_le _⟩
   · split
     · exact ⟨fun h => (by cases h),hx _ _⟩
     · exact ⟨fun h => (by cases h),Nat.zero_le _⟩
theorem q1e (s : ByteArray) : ∀ (f i : Nat) (out : List Tok),s.size ≤ i + f → qlj s out → qlj s (z7 s i out).toks := by
 intro f
 induction f with
 | zero => intro i out h ho; rw [qj3 (by omega)]; exact ho
 | succ f ih =>
   intro i out h ho
   by_cases hi : i < s.size
   · rw [j8 hi]
     split
     · exact ih (i + 1) out (by omega) ho
     · split
       · exact ⟨fun t ht => (by cases ht),fun t ht => (by cases ht),Nat.zero_le _⟩
       · split
         · exact ⟨fun t ht => (by cases ht),fun t ht => (by cases ht),Nat.zero_le _⟩
         · rename_i h4 he
           have hst := qcq hi (Decidable.not_not.1 he)
           obtain ⟨k1,k2⟩ := q1d s i
           refine ih (tokZ s i).stop _ (by omega) ⟨fun t ht => ?_,fun t ht => ?_,by rw [List.length_append]; show out.length + 1 ≤ 4000; omega⟩
           · rcases List.mem_append.1 ht with ht | ht
             · exact ho.ok t ht
             · rw [List.mem_singleton.1 ht]; exact k1
           · rcases List.mem_append.1 ht with ht | ht
             · exact ho.small t ht
             · rw [List.mem_singleton.1 ht]; exact k2
   · rw [qj3 (by omega)]; exact ho
theorem q1f {s : ByteArray} (hs : s.size ≤ 60000) : qlj s (lexZ s).toks := by
 rw [qj4 hs]
 exact q1e s s.size 0 [] (by omega) ⟨fun t ht => (by cases ht),fun t ht => (by cases ht),Nat.zero_le _⟩
structure PRes where
 p : qv
 line : Int
 col : Int
 err : Int
def noP : qv := ⟨[],[],[],[]⟩
noncomputable def prgZ (L : List Tok) : PO := Classical.choose (Prg.some_out L)
theorem qrb (L : List Tok) : Prg L (prgZ L) := Classical.choose_spec (Prg.some_out L)
noncomputable def qf9 (s : ByteArray) (o : PO) : PRes := match o with
 | .bad [] => ⟨noP,(qr s s.size).1,(qr s s.size).2,5⟩
 | .bad (t :: _) => ⟨noP,t.line,t.col,5⟩
 | .ok p => if (tZ p).isSome = true then ⟨p,0,0,0⟩ else ⟨noP,1,1,4⟩
noncomputable def qcx (s : ByteArray) : PRes := if (lexZ s).err ≠ 0 then ⟨noP,(lexZ s).line,(lexZ s).col,(lexZ s).err⟩ else qf9 s (prgZ (lexZ s).toks)
theorem qrc : ∀ (n : Nat),n < 10 ^ (digs n).length := by
 intro n
 induction n using Nat.strongRecOn with
 | ind n ih =>
   unfold digs
   split
   · simp; omega
   · rename_i h
     have := ih (n / 10) (by omega)
     rw [List.length_cons,Nat.pow_succ]
     omega
theorem Ex.few_all : ∀ (x : Ex) (b : Nat),x.ok → ∀ c ∈ x.nd b,c.few 5 := by
 intro x
 have none0 : ∀ {c : NodeC},c.n = [] → c.d = [] → c.few 5 := fun h1 h2 => ⟨by rw [h1]; exact Nat.zero_le _,by rw [h2]; exact Nat.zero_le _⟩
 induction x with
 | ref t => intro b _ c hc; rw [List.mem_singleton.1 hc]; exact none0 rfl rfl
 | num q =>
   intro b hok c hc
   rw [List.mem_singleton.1 hc]
   have h1 := qrc q.num.natAbs
   have h2 := qrc q.den
   exact ⟨qf8 (Nat.lt_of_lt_of_le h1 (Nat.pow_le_pow_right (by decide) hok.2.1)),qf8 (Nat.lt_of_lt_of_le h2 (Nat.pow_le_pow_right (by decide) hok.2.2))⟩
 | neg x ih =>
   intro b hok c hc
   rcases List.mem_append.1 hc with hc | hc
   · exact ih b hok c hc
   · rw [List.mem_singleton.1 hc]; exact none0 rfl rfl
 | pow x e ih =>
   intro b hok c hc
   rcases List.mem_append.1 hc with hc | hc
   · exact ih b hok.1 c hc
   · rw [List.mem_singleton.1 hc]; exact none0 rfl rfl
 | bin k x y ih1 ih2 =>
   intro b hok c hc
   rcases List.mem_append.1 hc with hc | hc
   · rcases List.mem_append.1 hc with hc | hc
     · exact ih1 b hok.2.2.1 c hc
     · exact ih2 _ hok.2.2.2 c hc
   · rw [List.mem_singleton.1 hc]; exact none0 rfl rfl
theorem qrd : ∀ (l : List (ByteArray × Ex)) (b : Nat), jv l → ∀ c ∈ (laid l b).2, c.few 5
 | [],_,_,c,hc => by cases hc
 | (s, x) :: l, b, h, c, hc => by
   simp only [laid] at hc
   rcases List.mem_append.1 hc with hc | hc
   · exact Ex.few_all x b (h (s,x) (by simp)).2 c hc
   · exact qrd l _ (fun a ha => h a (by simp [ha])) c hc
theorem Prg.few_all {L : List Tok} {p : qv} (h : Prg L (.ok p)) (hr : yz L) : ∀ c ∈ p.all,c.few 5 := by
 obtain ⟨l,hs,_⟩ := h.ex hr
 rw [hs.all]
 exact qrd l 0 hs.ok
def q1g (r : PRes) (v : Value) (I' : Hp) : Prop := ∃ vi vl vo va ns,v = .tuple #[.agg #[vi,vl,vo,va],.agg #[.int .i64 r.line,.int .i64 r.col],.int .i64 r.err] ∧ yi I' vi vl vo va r.p ns ∧ ∀ o ∈ ns,o.c.few 5
theorem yi.nil (I : Hp) : yi I N0 N0 N0 N0 noP [] := ⟨Slc.nil _ _,Slc.nil _ _,Slc.nil _ _,Slc.nil _ _,fun o ho => (by cases ho),rfl⟩
theorem qre (l : List ByteArray) : ∀ c ∈ scs l,c.length = 1 := by
 intro c hc
 obtain ⟨x,_,rfl⟩ := List.mem_map.1 hc
 rfl
theorem q1h (l : List qd) : ∀ c ∈ nds l,c.length = 8 := by
 intro c hc
 obtain ⟨x,_,rfl⟩ := List.mem_map.1 hc
 rfl
theorem q1i (l : List LetC) : ∀ c ∈ l.map LetC.cells,c.length = 2 := by
 intro c hc
 obtain ⟨x,_,rfl⟩ := List.mem_map.1 hc
 rfl
theorem q1j (s : ByteArray) {I : Hp} (hT : Tabs I) (hM : Mx I) (hE : Errs I) (hs : s.size ≤ 60000) : Fun prog 27 [.string s] I [] (fun v I' _ => q1g (qcx s) v I') := by
 have hfine := q1f hs
 intro w hw
 refine qn _ func27 rfl ntmps27 rfl ?_ hw;refine sR ?_;refine qq trivial rfl zeroValue26 rfl (fun b2 => ?_);refine qq trivial rfl zeroValue48 rfl (fun b3 => ?_);refine oV ?_;refine nS ?_;refine oV ?_;refine oI call57 rfl (qzh s hT hM hs) ?_;rintro _ I1 hx1 ⟨u1,rfl,hs1⟩;iterate 4 refine oV ?_
 refine qq trivial rfl zeroValue48 rfl (fun b6 => ?_);refine oV ?_;refine oS sizeOf48 ?_;refine oV ?_;refine nU ?_;iterate 2 refine oV ?_
 refine nT ?_;refine cC rfl (fun h1 => ?_) (fun h1 => ?_)
 ·
  have f1 := h1;try simp only [bl] at f1
  have hz : qcx s = ⟨noP,(lexZ s).line,(lexZ s).col,(lexZ s).err⟩ := by unfold qcx; rw [if_pos (by simpa using h1)]
  refine cS ?_;refine zu (m := 6) [.box b6 _] (by repeat constructor) (by kernel_rfl) rfl ?_;refine qT (i := 0) (qB 6 1) (Hp.Le.refl _) rfl rfl (qw trivial rfl (qg8) rfl .nil qF) ?_;refine qT (i := 1) (qB 6 3) (Hp.Le.refl _) rfl rfl (oA isAgg48 sizeOf48 qF) ?_;refine qT (i := 2) (qB 6 7) (Hp.Le.refl _) rfl rfl (oV qF) ?_;refine qO (i := 3) (qB 6 15) rfl ?_;refine oS sizeOf26 ?_;refine qM (Hp.Le.refl _) ?_;refine qO (i := 4) (qB 6 31) rfl ?_;refine oS sizeOf48 ?_;refine qM (Hp.Le.refl _) ?_;refine qT (i := 5) (qB 6 63) (Hp.Le.refl _) rfl rfl (oV qF) ?_;refine jc (by kernel_rfl) ?_;refine tC (cT (tR ?_));refine retR rfl (.agg isAgg26 sizeOf26 rfl (by repeat constructor) rfl (.agg isAgg48 sizeOf48 rfl (by repeat constructor) rfl (.tmp rfl .nil))) ?_;refine leaf hx1 (List.nil_sublist _) ?_
  rw [hz]
  exact ⟨N0,N0,N0,N0,[],rfl,yi.nil _,fun o ho => by cases ho⟩
 have f1 := h1;try simp only [bl] at f1
 have hz : qcx s = qf9 s (prgZ (lexZ s).toks) := by unfold qcx; rw [if_neg (by simpa using h1)]
 have hP := qrb (lexZ s).toks
 generalize prgZ (lexZ s).toks = o at hz hP
 have htf := hfine.few
 have hsm : zg (lexZ s).toks := fun t ht => Nat.le_trans (hfine.small t ht) hs
 refine kS ?_;refine oV ?_;refine qw trivial rfl (qwe) rfl (.cons rfl (by exact (Slc.cells1 (by assumption)).1) (by rfl) (by repeat constructor) .nil) ?_;refine vh trivial rfl rfl rfl (fun b24 => ?_);refine oV ?_;refine nU ?_;refine oV ?_;refine oC trivial rfl call58 rfl (q1c b24 u1 (lexZ s).toks (hM.le hx1.le) (hE.le hx1.le) hs1 (by omega) hsm hfine.ok hP) (by repeat constructor) ?_;rintro _ I2 _ hx2 ⟨ok,i,us,vi,vl,vo,va,wi,wl,wo,wa,ins,ls,outs,ns,rfl,rfl,hi,hno,hyes⟩;refine oV ?_;refine nT ?_;refine cC rfl (fun h2 => ?_) (fun h2 => ?_)
 ·
  have f2 := h2;try simp only [bl] at f2
  have hk : ok = false := by simpa using f2
  have hbad := hno hk
  refine cS (sR ?_);refine oV ?_;refine oC trivial rfl call59 rfl (qb1 b24 i u1 us vi vl vo va (lexZ s).toks (hs1.le hx2.le)) (by repeat constructor) ?_;rintro _ _ _ hx3 ⟨rfl,rfl,rfl⟩;iterate 3 refine oV ?_
  refine qq trivial rfl zeroValue103 rfl (fun b9 => ?_);refine oS sizeOf103 ?_;refine oV ?_;refine nS ?_;refine oV ?_;refine nT ?_;refine cC rfl (fun h3 => ?_) (fun h3 => ?_)
  ·
   have f3 := h3;try simp only [bl] at f3
   refine cS ?_;refine zu (m := 6) [.box b9 _] (by repeat constructor) (by kernel_rfl) rfl ?_;refine qT (i := 0) (qB 6 1) (Hp.Le.refl _) rfl rfl (qw trivial rfl (qg8) rfl .nil qF) ?_;refine qT (i := 1) (qB 6 3) (Hp.Le.refl _) rfl rfl (oF 2 underlying103 sizeOf48 qF) ?_;refine qT (i := 2) (qB 6 7) (Hp.Le.refl _) rfl rfl (oA isAgg48 sizeOf48 qF) ?_;refine qO (i := 3) (qB 6 15) rfl ?_;refine oS sizeOf26 ?_;refine qM (Hp.Le.refl _) ?_;refine qO (i := 4) (qB 6 31) rfl ?_;refine oS sizeOf48 ?_;refine qM (Hp.Le.refl _) ?_;refine qT (i := 5) (qB 6 63) (Hp.Le.refl _) rfl rfl (oV qF) ?_;refine jc (by kernel_rfl) ?_;refine tC (cT (tR (tR ?_)));refine retR rfl (.agg isAgg26 sizeOf26 rfl (by repeat constructor) rfl (.agg isAgg48 sizeOf48 rfl (by repeat constructor) rfl (.tmp rfl .nil))) ?_;refine leaf (hx1.trans hx2 (Nat.le_refl _)) (List.nil_sublist _) ?_
   rw [hz,hbad,yq (by simpa using h3)]
   exact ⟨N0,N0,N0,N0,[],rfl,yi.nil _,fun o ho => by cases ho⟩
  have f3 := h3;try simp only [bl] at f3
  refine kS ?_;refine qw trivial rfl (qg8) rfl .nil ?_;iterate 2 refine oV ?_
  refine yj trivial rfl underlying9 rfl ?_;refine oQ call60 rfl (qoi s (s.size : Nat) (by omega)) ?_;refine oS sizeOf26 ?_;refine oS sizeOf48 ?_;refine oV ?_;refine nF ?_;refine retR rfl (.agg isAgg26 sizeOf26 rfl (by repeat constructor) rfl (.agg isAgg48 sizeOf48 rfl (by repeat constructor) rfl (.tmp rfl .nil))) ?_;refine leaf (hx1.trans hx2 (Nat.le_refl _)) (List.nil_sublist _) ?_
  rw [hz,hbad,List.drop_eq_nil_of_le (by have := f3; omega)]
  exact ⟨N0,N0,N0,N0,[],rfl,yi.nil _,fun o ho => by cases ho⟩
 have f2 := h2;try simp only [bl] at f2
 have hk : ok = true := by simpa using f2
 obtain ⟨rfl,rfl,rfl,rfl,hok,rfl,hb1,hb2,hb3,hb4⟩ := hyes hk
 have hfew : ∀ o ∈ ns,o.c.few 5 := fun o ho => Prg.few_all hP hfine.ok o.c (List.mem_map.2 ⟨o,ho,rfl⟩)
 refine cK (tC (cS (cS ?_)));refine qbj (u := wi) (xss := scs ins) (by repeat constructor) (jq _) (qre _) (by unfold maxLen; omega) (fun I3 hx3 hsi => ?_);refine qbj (u := wl) (xss := ls.map LetC.cells) (by repeat constructor) (List.length_map _) (q1i _) (by unfold maxLen; omega) (fun I4 hx4 hsl => ?_);refine qbj (u := wo) (xss := scs outs) (by repeat constructor) (jq _) (qre _) (by unfold maxLen; omega) (fun I5 hx5 hso => ?_);refine qbj (u := wa) (xss := nds ns) (by repeat constructor) (zl _) (q1h _) (by unfold maxLen; omega) (fun I6 hx6 hsa => ?_)
 have hsi := hsi.le (hx4.le.trans (hx5.le.trans hx6.le))
 have hsl := hsl.le (hx5.le.trans hx6.le)
 have hso := hso.le hx6.le
 have hpv : yi I6 wi wl wo wa ⟨ins,ls,outs,ns.map qd.c⟩ ns := ⟨hsi,hsl,hso,hsa,fun o ho => (hok o ho).le (hx3.le.trans (hx4.le.trans (hx5.le.trans hx6.le))),rfl⟩
 have hx16 : Ext w.heap.size I I6 := hx1.trans (hx2.trans (hx3.trans (hx4.trans (hx5.trans hx6 (Nat.le_refl _)) (Nat.le_refl _)) (Nat.le_refl _)) (Nat.le_refl _)) (Nat.le_refl _)
 refine cR ?_;iterate 2 refine oV ?_
 refine oF 3 underlying101 sizeOf26 ?_;refine oA isAgg26 sizeOf26 ?_;refine oQ call26 rfl (qq1 wi wl wo wa _ ns hpv (fun o ho => ⟨by have := (hfew o ho).1; omega,by have := (hfew o ho).2; omega⟩)) ?_;refine oV ?_;refine nT ?_;refine cC rfl (fun h4 => ?_) (fun h4 => ?_)
 ·
  have f4 := h4;try simp only [bl] at f4
  refine sR ?_;refine qw trivial rfl (qg8) rfl .nil ?_;refine qw trivial rfl (qda) rfl (.cons rfl rfl rfl (by repeat constructor) (.cons rfl rfl rfl (by repeat constructor) .nil)) ?_;refine oS sizeOf26 ?_;refine oS sizeOf48 ?_;refine oV ?_;refine nF ?_;refine retR rfl (.agg isAgg26 sizeOf26 rfl (by repeat constructor) rfl (.agg isAgg48 sizeOf48 rfl (by repeat constructor) rfl (.tmp rfl .nil))) ?_;refine leaf hx16 (List.nil_sublist _) ?_
  rw [hz]
  unfold qf9
  dsimp only
  rw [if_neg (by simpa using h4)]
  exact ⟨N0,N0,N0,N0,[],rfl,yi.nil _,fun o ho => by cases ho⟩
 have f4 := h4;try simp only [bl] at f4
 refine kS ?_;iterate 2 refine oV ?_
 refine oF 3 underlying101 sizeOf26 ?_;refine oA isAgg26 sizeOf26 ?_;refine qw trivial rfl (qda) rfl .nil ?_;refine oS sizeOf26 ?_;refine oS sizeOf48 ?_;refine oV ?_;refine nE ?_;refine retR rfl (.agg isAgg26 sizeOf26 rfl (by repeat constructor) rfl (.agg isAgg48 sizeOf48 rfl (by repeat constructor) rfl (.tmp rfl .nil))) ?_;refine leaf hx16 (List.nil_sublist _) ?_
 rw [hz]
 unfold qf9
 dsimp only
 rw [if_pos (by simpa using h4)]
 exact ⟨wi,wl,wo,wa,ns,rfl,hpv,hfew⟩
def qaw : List Tok → Option Int × List Tok
 | [] => (none,[])
 | x :: r => if isT x 2 vf then (match r with
     | [] => (none,[])
     | y :: r' => if y.kind = 1 then (match yl y.text with | some n => (some (-(n : Int)),r') | none => (none,y :: r')) else (none,y :: r'))
   else if x.kind = 1 then (match yl x.text with | some n => (some (n : Int),r) | none => (none,x :: r)) else (none,x :: r)
theorem Expo.fn {r r1 : List Tok} {e : Option Int} (h : Expo r e r1) : qaw r = (e,r1) := by
 cases h with
 | neg h1 h2 h3 => simp only [qaw,h1,if_true,h2,h3]
 | neg_end h1 => simp only [qaw,h1,if_true]
 | @neg_bad x y r h1 h2 =>
   simp only [qaw,h1,if_true]
   by_cases hk : y.kind = 1
   · rw [if_pos hk,h2 hk]
   · rw [if_neg hk]
 | pos h1 h2 h3 => simp [qaw,h1,h2,h3]
 | pos_end => rfl
 | @pos_bad y r h1 h2 =>
   simp only [qaw,h1]
   by_cases hk : y.kind = 1
   · rw [if_neg (by decide),if_pos hk,h2 hk]
   · rw [if_neg (by decide),if_neg hk]
def psF : Nat → Lv → List NodeC → List Tok → POut
 | 0,_,_,r => .bad r
 | f + 1, .atom, all, r => match r with
   | [] => .bad []
   | x :: r' => if isT x 2 lpar then (match psF f .sum all r' with
       | .bad r1 => .bad r1
       | .ok a1 r1 => if hdT r1 2 rpar then .ok a1 (r1.drop 1) else .bad r1)
     else if yy x then .ok (all ++ [qar x]) r' else .bad (x :: r')
 | f + 1, .powL, all, r => match r with
   | [] => .ok all []
   | x :: r' => if isT x 2 Go.Tw.caret then (match qaw r' with
       | (some e,r1) => .ok (all ++ [powN (vr all) e]) r1
       | (none,r1) => .bad r1) else .ok all (x :: r')
 | f + 1, .power, all, r => match psF f .atom all r with
   | .bad r1 => .bad r1
   | .ok a1 r1 => psF f .powL a1 r1
 | f + 1, .factor, all, r => match r with
   | [] => psF f .power all []
   | x :: r' => if isT x 2 vf then (match psF f .factor all r' with
       | .bad r1 => .bad r1
       | .ok a1 r1 => .ok (a1 ++ [negN (vr a1)]) r1) else psF f .power all (x :: r')
 | f + 1, .prodL, all, r => match hdK mulK r with
   | none => .ok all r
   | some k => match psF f .factor all (r.drop 1) with
     | .bad r1 => .bad r1
     | .ok a1 r1 => psF f .prodL (a1 ++ [binN k (vr all) (vr a1)]) r1
 | f + 1, .product, all, r => match psF f .factor all r with
   | .bad r1 => .bad r1
   | .ok a1 r1 => psF f .prodL a1 r1
 | f + 1, .sumL, all, r => match hdK addK r with
   | none => .ok all r
   | some k => match psF f .product all (r.drop 1) with
     | .bad r1 => .bad r1
     | .ok a1 r1 => psF f .sumL (a1 ++ [binN k (vr all) (vr a1)]) r1
 | f + 1, .sum, all, r => match psF f .product all r with
   | .bad r1 => .bad r1
   | .ok a1 r1 => psF f .sumL a1 r1
def rkL : Lv → Nat
 | .atom => 1
 | .powL => 1
 | .power => 2
 | .factor => 3
 | .prodL => 1
 | .product => 4
 | .sumL => 1
 | .sum => 5
theorem qlk {lv : Lv} {all : List NodeC} {r : List Tok} {o : POut} (h : Ps lv all r o) : ∀ f,8 * r.length + rkL lv ≤ f → psF f lv all r = o := by
 have len1 : ∀ {lv : Lv} {all a1 : List NodeC} {r r1 : List Tok},Ps lv all r (.ok a1 r1) → r1.length + lv.need ≤ r.length := fun h => h.len
 induction h with
 | par_bad hx h ih =>
   intro f hf
   obtain ⟨f,rfl⟩ : ∃ g,f = g + 1 := ⟨f - 1,by simp only [rkL] at hf; omega⟩
   simp only [List.length_cons,rkL] at hf
   simp only [psF,hx,if_true]
   rw [ih f (by simp only [rkL]; omega)]
 | par_ok hx h hy ih =>
   intro f hf
   obtain ⟨f,rfl⟩ : ∃ g,f = g + 1 := ⟨f - 1,by simp only [rkL] at hf; omega⟩
   simp only [List.length_cons,rkL] at hf
   simp only [psF,hx,if_true]
   rw [ih f (by simp only [rkL]; omega)]
   simp only [hdT,hy,if_true,List.drop_one,List.tail_cons]
 | par_no hx h hy ih =>
   intro f hf
   obtain ⟨f,rfl⟩ : ∃ g,f = g + 1 := ⟨f - 1,by simp only [rkL] at hf; omega⟩
   simp only [List.length_cons,rkL] at hf
   simp only [psF,hx,if_true]
   rw [ih f (by simp only [rkL]; omega)]
   simp only [hy]
   rfl
 | @leaf all x r hl =>
   intro f hf
   obtain ⟨f,rfl⟩ : ∃ g,f = g + 1 := ⟨f - 1,by simp only [rkL] at hf; omega⟩
   have hp : isT x 2 lpar = false := by
     cases hb : isT x 2 lpar with
     | false => rfl
     | true => rw [yy,(qej.1 hb).1] at hl; exact absurd hl (by simp)
   simp [psF,hp,hl]
 | none =>
   intro f hf
   obtain ⟨f,rfl⟩ : ∃ g,f = g + 1 := ⟨f - 1,by simp only [rkL] at hf; omega⟩
   rfl
 | no h1 h2 =>
   intro f hf
   obtain ⟨f,rfl⟩ : ∃ g,f = g + 1 := ⟨f - 1,by simp only [rkL] at hf; omega⟩
   simp [psF,h1,h2]
 | @pow_none all r h1 =>
   intro f hf
   obtain ⟨f,rfl⟩ : ∃ g,f = g + 1 := ⟨f - 1,by simp only [rkL] at hf; omega⟩
   cases r with
   | nil => rfl
   | cons x r => simp only [hdT] at h1; simp [psF,h1]
 | pow_ok h1 h2 =>
   intro f hf
   obtain ⟨f,rfl⟩ : ∃ g,f = g + 1 := ⟨f - 1,by simp only [rkL] at hf; omega⟩
   simp [psF,h1,Expo.fn h2]
 | pow_bad h1 h2 =>
   intro f hf
   obtain ⟨f,rfl⟩ : ∃ g,f = g + 1 := ⟨f - 1,by simp only [rkL] at hf; omega⟩
   simp [psF,h1,Expo.fn h2]
 | power_bad h ih =>
   intro f hf
   obtain ⟨f,rfl⟩ : ∃ g,f = g + 1 := ⟨f - 1,by simp only [rkL] at hf; omega⟩
   simp only [psF]
   rw [ih f (by simp only [rkL] at hf ⊢; omega)]
 | power_ok h h2 ih ih2 =>
   intro f hf
   obtain ⟨f,rfl⟩ : ∃ g,f = g + 1 := ⟨f - 1,by simp only [rkL] at hf; omega⟩
   have hl := len1 h
   simp only [psF]
   rw [ih f (by simp only [rkL] at hf ⊢; omega)]
   exact ih2 f (by simp only [rkL,Lv.need] at hf hl ⊢; omega)
 | neg_bad hx h ih =>
   intro f hf
   obtain ⟨f,rfl⟩ : ∃ g,f = g + 1 := ⟨f - 1,by simp only [rkL] at hf; omega⟩
   simp only [List.length_cons,rkL] at hf
   simp only [psF,hx,if_true]
   rw [ih f (by simp only [rkL]; omega)]
 | neg_ok hx h ih =>
   intro f hf
   obtain ⟨f,rfl⟩ : ∃ g,f = g + 1 := ⟨f - 1,by simp only [rkL] at hf; omega⟩
   simp only [List.length_cons,rkL] at hf
   simp only [psF,hx,if_true]
   rw [ih f (by simp only [rkL]; omega)]
 | @fac all r o h1 h ih =>
   intro f hf
   obtain ⟨f,rfl⟩ : ∃ g,f = g + 1 := ⟨f - 1,by simp only [rkL] at hf; omega⟩
   have := ih f (by simp only [rkL] at hf ⊢; omega)
   cases r with
   | nil => exact this
   | cons x r =>
     simp only [hdT] at h1
     simp only [psF,h1]
     exact this
 | prodL_end h1 =>
   intro f hf
   obtain ⟨f,rfl⟩ : ∃ g,f = g + 1 := ⟨f - 1,by simp only [rkL] at hf; omega⟩
   simp only [psF,h1]
 | @prodL_bad all x r r1 k hk h ih =>
   intro f hf
   obtain ⟨f,rfl⟩ : ∃ g,f = g + 1 := ⟨f - 1,by simp only [rkL] at hf; omega⟩
   simp only [List.length_cons,rkL] at hf
   have hk' : hdK mulK (x :: r) = some k := hk
   simp only [psF,hk',List.drop_one,List.tail_cons]
   rw [ih f (by simp only [rkL]; omega)]
 | @prodL_ok all a1 x r r1 k o hk h h2 ih ih2 =>
   intro f hf
   obtain ⟨f,rfl⟩ : ∃ g,f = g + 1 := ⟨f - 1,by simp only [rkL] at hf; omega⟩
   simp only [List.length_cons,rkL] at hf
   have hl := len1 h
   have hk' : hdK mulK (x :: r) = some k := hk
   simp only [psF,hk',List.drop_one,List.tail_cons]
   rw [ih f (by simp only [rkL]; omega)]
   exact ih2 f (by simp only [rkL,Lv.need] at hl ⊢; omega)
 | product_bad h ih =>
   intro f hf
   obtain ⟨f,rfl⟩ : ∃ g,f = g + 1 := ⟨f - 1,by simp only [rkL] at hf; omega⟩
   simp only [psF]
   rw [ih f (by simp only [rkL] at hf ⊢; omega)]
 | product_ok h h2 ih ih2 =>
   intro f hf
   obtain ⟨f,rfl⟩ : ∃ g,f = g + 1 := ⟨f - 1,by simp only [rkL] at hf; omega⟩
   have hl := len1 h
   simp only [psF]
   rw [ih f (by simp only [rkL] at hf ⊢; omega)]
   exact ih2 f (by simp only [rkL,Lv.need] at hf hl ⊢; omega)
 | sumL_end h1 =>
   intro f hf
   obtain ⟨f,rfl⟩ : ∃ g,f = g + 1 := ⟨f - 1,by simp only [rkL] at hf; omega⟩
   simp only [psF,h1]
 | @sumL_bad all x r r1 k hk h ih =>
   intro f hf
   obtain ⟨f,rfl⟩ : ∃ g,f = g + 1 := ⟨f - 1,by simp only [rkL] at hf; omega⟩
   simp only [List.length_cons,rkL] at hf
   have hk' : hdK addK (x :: r) = some k := hk
   simp only [psF,hk',List.drop_one,List.tail_cons]
   rw [ih f (by simp only [rkL]; omega)]
 | @sumL_ok all a1 x r r1 k o hk h h2 ih ih2 =>
   intro f hf
   obtain ⟨f,rfl⟩ : ∃ g,f = g + 1 := ⟨f - 1,by simp only [rkL] at hf; omega⟩
   simp only [List.length_cons,rkL] at hf
   have hl := len1 h
   have hk' : hdK addK (x :: r) = some k := hk
   simp only [psF,hk',List.drop_one,List.tail_cons]
   rw [ih f (by simp only [rkL]; omega)]
   exact ih2 f (by simp only [rkL,Lv.need] at hl ⊢; omega)
 | sum_bad h ih =>
   intro f hf
   obtain ⟨f,rfl⟩ : ∃ g,f = g + 1 := ⟨f - 1,by simp only [rkL] at hf; omega⟩
   simp only [psF]
   rw [ih f (by simp only [rkL] at hf ⊢; omega)]
 | sum_ok h h2 ih ih2 =>
   intro f hf
   obtain ⟨f,rfl⟩ : ∃ g,f = g + 1 := ⟨f - 1,by simp only [rkL] at hf; omega⟩
   have hl := len1 h
   simp only [psF]
   rw [ih f (by simp only [rkL] at hf ⊢; omega)]
   exact ih2 f (by simp only [rkL,Lv.need] at hf hl ⊢; omega)
def lt1F (all : List NodeC) (r : List Tok) : LO := match r with
 | [] => .bad []
 | x :: r' => if yf x then (if hdT r' 2 je then (match psF (8 * r'.length + 5) .sum all (r'.drop 1) with
     | .bad r1 => .bad r1
     | .ok a1 r1 => if hdT r1 2 ye then .ok x.text a1 (r1.drop 1) else .bad r1) else .bad r') else .bad (x :: r')
theorem qrf {all : List NodeC} {r : List Tok} {o : LO} (h : Lt1 all r o) : lt1F all r = o := by
 cases h with
 | noname h0 => cases r with
   | nil => rfl
   | cons x r => simp only [hdN] at h0; simp [lt1F,h0]
 | @noeq x r h0 h1 => simp only [lt1F,h0,if_true,h1]; rfl
 | @sumbad x y r r1 h0 h1 h2 =>
   have h1' : hdT (y :: r) 2 je = true := h1
   have := qlk h2 (8 * (y :: r).length + 5) (by simp only [rkL,List.length_cons]; omega)
   simp only [lt1F,h0,if_true,h1',List.drop_one,List.tail_cons,this]
 | @nosemi a1 x y r r1 h0 h1 h2 h3 =>
   have h1' : hdT (y :: r) 2 je = true := h1
   have := qlk h2 (8 * (y :: r).length + 5) (by simp only [rkL,List.length_cons]; omega)
   simp only [lt1F,h0,if_true,h1',List.drop_one,List.tail_cons,this,h3]
   rfl
 | @ok a1 x y z r r1 h0 h1 h2 h3 =>
   have h1' : hdT (y :: r) 2 je = true := h1
   have h3' : hdT (z :: r1) 2 ye = true := h3
   have := qlk h2 (8 * (y :: r).length + 5) (by simp only [rkL,List.length_cons]; omega)
   simp only [lt1F,h0,if_true,h1',List.drop_one,List.tail_cons,this,h3']
def ltsF : Nat → List LetC → List NodeC → List Tok → LSO
 | 0,ls,all,r => .bad r
 | f + 1, ls, all, r => if hdT r 0 letS then (match lt1F all (r.drop 1) with
     | .bad r1 => .bad r1
     | .ok n a1 r1 => ltsF f (ls ++ [⟨n,vr a1⟩]) a1 r1) else .ok ls all r
theorem qga {ls : List LetC} {all : List NodeC} {r : List Tok} {o : LSO} (h : Lts ls all r o) : ∀ f,r.length < f → ltsF f ls all r = o := by
 induction h with
 | fin h0 =>
   intro f hf
   obtain ⟨f,rfl⟩ : ∃ g,f = g + 1 := ⟨f - 1,by omega⟩
   simp [ltsF,h0]
 | @bad ls all x r r1 h0 h1 =>
   intro f hf
   obtain ⟨f,rfl⟩ : ∃ g,f = g + 1 := ⟨f - 1,by omega⟩
   have h0' : hdT (x :: r) 0 letS = true := h0
   simp only [ltsF,h0',if_true,List.drop_one,List.tail_cons,qrf h1]
 | @more ls all a1 x n r r1 o h0 h1 h2 ih =>
   intro f hf
   obtain ⟨f,rfl⟩ : ∃ g,f = g + 1 := ⟨f - 1,by omega⟩
   have hl := h1.len
   have h0' : hdT (x :: r) 0 letS = true := h0
   simp only [List.length_cons] at hf
   simp only [ltsF,h0',if_true,List.drop_one,List.tail_cons,qrf h1,ih f (by omega)]
def prgF (r : List Tok) : PO :=
 if hdT r 0 inS then (match q9 (r.drop 1) with
   | .bad r1 => .bad r1
   | .ok ins r1 => match ltsF (r1.length + 1) [] [] r1 with
     | .bad r2 => .bad r2
     | .ok ls all r2 => if hdT r2 0 outS then (match q9 (r2.drop 1) with
         | .bad r3 => .bad r3
         | .ok outs [] => .ok ⟨ins,ls,outs,all⟩
         | .ok outs (z :: r3) => .bad (z :: r3)) else .bad r2) else .bad r
theorem qrg {r : List Tok} {o : PO} (h : Prg r o) : prgF r = o := by
 have h0' : ∀ {x : Tok} {r : List Tok} {k : Int} {t : ByteArray},isT x k t = true → hdT (x :: r) k t = true := fun h => h
 cases h with
 | noin h0 => simp [prgF,h0]
 | insbad h0 h1 => simp [prgF,h0' h0,h1]
 | letsbad h0 h1 h2 => simp [prgF,h0' h0,h1,qga h2 _ (Nat.lt_succ_self _)]
 | noout h0 h1 h2 h3 => simp [prgF,h0' h0,h1,qga h2 _ (Nat.lt_succ_self _),h3]
 | outsbad h0 h1 h2 h3 h4 => simp [prgF,h0' h0,h1,qga h2 _ (Nat.lt_succ_self _),h0' h3,h4]
 | tail h0 h1 h2 h3 h4 => simp [prgF,h0' h0,h1,qga h2 _ (Nat.lt_succ_self _),h0' h3,h4]
 | ok h0 h1 h2 h3 h4 => simp [prgF,h0' h0,h1,qga h2 _ (Nat.lt_succ_self _),h0' h3,h4]
theorem q1k (r : List Tok) : prgZ r = prgF r := (qrg (qrb r)).symm
theorem q1l (n n' b0 b1 b2 b3 c1 c2 c3 : Nat) (hpos : 1 ≤ n) (hn : n ≤ n') (h1 : 1 < n → c1 = b1) (h2 : 2 < n → c2 = b2) (h3 : 3 < n → c3 = b3)
   (k1 : n = 1 → 1 < n' → c1 / 64 ≠ 2) (k2 : n = 2 → 2 < n' → c2 / 64 ≠ 2) (k3 : n = 3 → 3 < n' → c3 / 64 ≠ 2) : Lib.decodeN n' b0 c1 c2 c3 = Lib.decodeN n b0 b1 b2 b3 := by
 have e1 : (1 < n' ∧ c1 / 64 = 2) ↔ (1 < n ∧ b1 / 64 = 2) := by
   by_cases q : 1 < n
   · rw [h1 q]
     constructor
     · rintro ⟨_,h⟩; exact ⟨q,h⟩
     · rintro ⟨_,h⟩; exact ⟨by omega,h⟩
   · have q1 : n = 1 := by omega
     constructor
     · rintro ⟨p1,p2⟩; exact absurd p2 (k1 q1 p1)
     · rintro ⟨p1,_⟩; omega
 have e2 : ((1 < n' ∧ c1 / 64 = 2) ∧ (2 < n' ∧ c2 / 64 = 2)) ↔ ((1 < n ∧ b1 / 64 = 2) ∧ (2 < n ∧ b2 / 64 = 2)) := by
   by_cases q : 2 < n
   · rw [e1, h2 q]
     constructor
     · rintro ⟨h,_,h'⟩; exact ⟨h,q,h'⟩
     · rintro ⟨h,_,h'⟩; exact ⟨h,by omega,h'⟩
   · constructor
     · rintro ⟨h, p1, p2⟩
       have h' := e1.1 h
       exact absurd p2 (k2 (by omega) p1)
     · rintro ⟨_,p1,_⟩; omega
 have e3 : ((1 < n' ∧ c1 / 64 = 2) ∧ (2 < n' ∧ c2 / 64 = 2) ∧ (3 < n' ∧ c3 / 64 = 2)) ↔ ((1 < n ∧ b1 / 64 = 2) ∧ (2 < n ∧ b2 / 64 = 2) ∧ (3 < n ∧ b3 / 64 = 2)) := by
   constructor
   · rintro ⟨x1, x2, x3⟩
     have y := e2.1 ⟨x1,x2⟩
     by_cases q : 3 < n
     · exact ⟨y.1,y.2,q,by rw [← h3 q]; exact x3.2⟩
     · exact absurd x3.2 (k3 (by omega) x3.1)
   · rintro ⟨x1, x2, x3⟩
     have y := e2.2 ⟨x1,x2⟩
     exact ⟨y.1,y.2,by omega,by rw [h3 x3.1]; exact x3.2⟩
 unfold Lib.decodeN
 by_cases g0 : b0 < 128
 · rw [if_pos g0,if_pos g0]
 · rw [if_neg g0, if_neg g0]
   by_cases g1 : b0 / 32 = 6 ∧ (1 < n ∧ b1 / 64 = 2)
   · rw [if_pos g1,if_pos ⟨g1.1,e1.2 g1.2⟩,h1 g1.2.1]
   · rw [if_neg g1, if_neg (fun h => g1 ⟨h.1, e1.1 h.2⟩)]
     by_cases g2 : b0 / 16 = 14 ∧ (1 < n ∧ b1 / 64 = 2) ∧ (2 < n ∧ b2 / 64 = 2)
     · rw [if_pos g2,if_pos ⟨g2.1,e2.2 g2.2⟩,h1 g2.2.1.1,h2 g2.2.2.1]
     · rw [if_neg g2, if_neg (fun h => g2 ⟨h.1, e2.1 h.2⟩)]
       by_cases g3 : b0 / 8 = 30 ∧ (1 < n ∧ b1 / 64 = 2) ∧ (2 < n ∧ b2 / 64 = 2) ∧ (3 < n ∧ b3 / 64 = 2)
       · rw [if_pos g3,if_pos ⟨g3.1,e3.2 g3.2⟩,h1 g3.2.1.1,h2 g3.2.2.1.1,h3 g3.2.2.2.1]
       · rw [if_neg g3,if_neg (fun h => g3 ⟨h.1,e3.1 h.2⟩)]
def Bl (x : ByteArray) : Prop := x.size = 0 ∨ (x.get! 0).toNat = 10 ∨ (x.get! 0).toNat = 32
theorem qrh (s x : ByteArray) : (s ++ x).get! s.size = x.get! 0 := qjy s x 0
theorem qh9 {s x : ByteArray} (hx : Bl x) {i : Nat} (hi : i < s.size) : Utf8.decode (s ++ x) i = Utf8.decode s i := by
 have hsz : (s ++ x).size = s.size + x.size := ByteArray.size_append
 have hm := qrh s x
 have hstop : s.size < (s ++ x).size → ((s ++ x).get! s.size).toNat / 64 ≠ 2 := fun h => by
   rw [hm]
   rcases hx with h0 | h0 | h0 <;> omega
 rw [Lib.decode_at,Lib.decode_at,qco s x i hi]
 refine q1l _ _ _ _ _ _ _ _ _ (by omega) (by omega) (fun h => by rw [qco s x _ (by omega)]) (fun h => by rw [qco s x _ (by omega)]) (fun h => by rw [qco s x _ (by omega)]) (fun h h' => ?_) (fun h h' => ?_) (fun h h' => ?_)
 · rw [show i + 1 = s.size by omega]; exact hstop (by omega)
 · rw [show i + 2 = s.size by omega]; exact hstop (by omega)
 · rw [show i + 3 = s.size by omega]; exact hstop (by omega)
theorem qgb {s x : ByteArray} (hx : Bl x) {i : Nat} (hi : i < s.size) : kAt (s ++ x) i = kAt s i := by unfold kAt; rw [qh9 hx hi]
theorem qgc {s : ByteArray} {i : Nat} (h : (s.get! i).toNat < 128) : kAt s i = yo (s.get! i).toNat := by unfold kAt; rw [Go.Tw.decode_ascii h]
theorem qri {s x : ByteArray} (hx : Bl x) (h : s.size < (s ++ x).size) : kAt (s ++ x) s.size = 3 ∧ ((s ++ x).get! s.size).toNat ≠ 124 := by
 have hsz : (s ++ x).size = s.size + x.size := ByteArray.size_append
 have hm := qrh s x
 rcases hx with h0 | h0 | h0
 · omega
 · rw [qgc (by rw [hm]; omega),hm,h0]; exact ⟨by decide,by decide⟩
 · rw [qgc (by rw [hm]; omega),hm,h0]; exact ⟨by decide,by decide⟩
theorem qgd {p : Int → Bool} {s x : ByteArray} (hx : Bl x) (hp : p 3 = false) : ∀ (f i : Nat), s.size ≤ i + f → i ≤ s.size → qf p (s ++ x) i = qf p s i
 | 0, i, h, hi => by
   have e : i = s.size := by omega
   subst e
   rw [qan (s := s) (Nat.le_refl _)]
   rcases Nat.lt_or_ge s.size (s ++ x).size with h1 | h1
   · exact qao h1 (by rw [(qri hx h1).1]; exact hp)
   · rw [qan h1]
     have hsz : (s ++ x).size = s.size + x.size := ByteArray.size_append
     omega
 | f + 1, i, h, hi => by
   rcases Nat.lt_or_ge i s.size with h1 | h1
   · have hsz : (s ++ x).size = s.size + x.size := ByteArray.size_append
     have hw := yx s i
     have hin := zx s i h1
     cases hk : p (kAt s i) with
     | false => rw [qao h1 hk,qao (by omega) (by rw [qgb hx h1]; exact hk)]
     | true =>
       rw [qap h1 hk,qap (by omega) (by rw [qgb hx h1]; exact hk),qh9 hx h1]
       exact qgd hx hp f _ (by omega) hin
   · exact qgd hx hp 0 i (by omega) hi
theorem qll {s x : ByteArray} {i j : Nat} (hj : j ≤ s.size) : (s ++ x).extract i j = s.extract i j := by
 rw [ByteArray.extract_append]
 have : x.extract (i - s.size) (j - s.size) = ByteArray.empty := ByteArray.extract_eq_empty_iff.2 (by omega)
 rw [this,ByteArray.append_empty]
theorem q1m {s x : ByteArray} (hx : Bl x) {i : Nat} (hi : i ≤ s.size) : vg (s ++ x) i = vg s i := by
 have hr := qgd (p := qj) hx rfl s.size i (by omega) hi
 have hle := qaq qj s i hi
 have hsz : (s ++ x).size = s.size + x.size := ByteArray.size_append
 unfold vg
 rw [hr]
 rcases Nat.lt_or_ge (qf qj s i) s.size with h1 | h1
 · rw [qco s x _ h1, qgd (p := qj) hx rfl s.size (qf qj s i + 1) (by omega) (by omega)]
   by_cases h2 : qf qj s i < s.size ∧ (s.get! (qf qj s i)).toNat = 124 ∧ qf qj s i + 1 < qf qj s (qf qj s i + 1)
   · rw [if_pos h2,if_pos ⟨by omega,h2.2⟩]
   · rw [if_neg h2,if_neg (fun h => h2 ⟨h1,h.2⟩)]
 · rw [if_neg (c := qf qj s i < s.size ∧ _) (by omega)]
   have e : qf qj s i = s.size := by omega
   rw [e,if_neg]
   rintro ⟨h2,h3,_⟩;exact (qri hx h2).2 h3
theorem qlm {s x : ByteArray} (hx : Bl x) {i : Nat} (hi : i < s.size) : tokZ (s ++ x) i = tokZ s i := by
 have hw := qaq yk s i (by omega)
 have hn := (qhm s i (by omega)).2
 have hin := zx s i hi
 unfold tokZ
 rw [qgb hx hi,qgd (p := yk) hx rfl s.size i (by omega) (by omega),q1m hx (by omega),qh9 hx hi,qll hw,qll hn,qll hin]
theorem qln (p : Int → Bool) (s : ByteArray) (a i : Nat) (ha : a ≤ s.size) : qf p s (a + i) = a + qf p (s.extract a s.size) i := by
 have h := qj0 p s a ha (s.size - a - i) i
 have hs : (s.extract a s.size).size = s.size - a := by simp
 unfold qf
 rw [hs,show s.size - (a + i) = s.size - a - i by omega]
 omega
theorem qlo {s : ByteArray} {a i j : Nat} (hj : a + j ≤ s.size) : (s.extract a s.size).extract i j = s.extract (a + i) (a + j) := by
 rw [ByteArray.extract_extract,Nat.min_eq_left hj]
theorem q1n (s : ByteArray) (a i : Nat) (ha : a ≤ s.size) : vg s (a + i) = a + vg (s.extract a s.size) i := by
 have hs : (s.extract a s.size).size = s.size - a := by simp
 unfold vg
 rw [qln qj s a i ha,qea s a _ ha,hs]
 have e := qln qj s a (qf qj (s.extract a s.size) i + 1) ha
 rw [← Nat.add_assoc] at e
 rw [e]
 by_cases h : qf qj (s.extract a s.size) i < s.size - a ∧ (s.get! (a + qf qj (s.extract a s.size) i)).toNat = 124 ∧ qf qj (s.extract a s.size) i + 1 < qf qj (s.extract a s.size) (qf qj (s.extract a s.size) i + 1)
 · rw [if_pos h,if_pos ⟨by omega,h.2.1,by omega⟩]
 · rw [if_neg h,if_neg (fun h' => h ⟨by omega,h'.2.1,by omega⟩)]
def _root_.Go.Tw.TokR.on (a : Nat) (t : TokR) : TokR := ⟨t.kind,t.text,a + t.stop,t.err⟩
theorem qrj (s : ByteArray) (a i : Nat) (ha : a ≤ s.size) : kAt s (a + i) = kAt (s.extract a s.size) i := by unfold kAt; rw [qfs s a i ha]
theorem q1o (s : ByteArray) (a i : Nat) (hi : a + i < s.size) : tokZ s (a + i) = (tokZ (s.extract a s.size) i).on a := by
 have ha : a ≤ s.size := by omega
 have hs : (s.extract a s.size).size = s.size - a := by simp
 have hw := qaq yk (s.extract a s.size) i (by omega)
 have hn := (qhm (s.extract a s.size) i (by omega)).2
 have hin := zx (s.extract a s.size) i (by omega)
 unfold tokZ
 rw [qrj s a i ha,qln yk s a i ha,q1n s a i ha,← qfs s a i ha,Nat.add_assoc a i,← qlo (i := i) (j := qf yk (s.extract a s.size) i) (by omega),← qlo (i := i) (j := vg (s.extract a s.size) i) (by omega),← qlo (i := i) (j := i + (Utf8.decode (s.extract a s.size) i).2) (by omega)]
 by_cases h1 : kAt (s.extract a s.size) i = 1
 · rw [if_pos h1, if_pos h1, show a + qf yk (s.extract a s.size) i - (a + i) = qf yk (s.extract a s.size) i - i by omega]
   split <;> rfl
 · rw [if_neg h1, if_neg h1]
   by_cases h2 : kAt (s.extract a s.size) i = 2
   · rw [if_pos h2, if_pos h2]
     split
     · rfl
     · split <;> rfl
   · rw [if_neg h2, if_neg h2]
     split <;> rfl
theorem _root_.Go.Tw.Hops.head {s : ByteArray} {i b : Nat} (h : Hops s i b) : i = b ∨ (i < s.size ∧ Hops s (i + (Utf8.decode s i).2) b) := by
 induction h with
 | refl => exact .inl rfl
 | @step j _ hj ih =>
   rcases ih with rfl | ⟨h1,h2⟩
   · exact .inr ⟨hj,.refl⟩
   · exact .inr ⟨h1,h2.step hj⟩
theorem _root_.Go.Tw.Hops.mid {s : ByteArray} {i a b : Nat} (ha : Hops s i a) (hb : Hops s i b) : a ≤ b → Hops s a b := by
 induction ha with
 | refl => intro _; exact hb
 | @step j _ hj ih =>
   intro h
   have hw := yx s j
   rcases (ih (by omega)).head with h1 | h1
   · omega
   · exact h1.2
theorem qlp {s : ByteArray} {B i : Nat} (hB : B ≤ s.size) (hi : i < B) (h : Hops s i B) : Utf8.decode (s.extract 0 B) i = Utf8.decode s i ∧ Hops s (i + (Utf8.decode s i).2) B ∧ i + (Utf8.decode s i).2 ≤ B := by
 rcases h.head with h1 | ⟨h1,h2⟩
 · omega
 · have hge := h2.ge
   have e := qph s 0 B i hB (by omega) (by rw [Nat.zero_add]; exact hge)
   rw [Nat.zero_add] at e
   exact ⟨e,h2,hge⟩
theorem qe0 {s : ByteArray} {B i : Nat} (hB : B ≤ s.size) (hi : i < B) (h : Hops s i B) : kAt (s.extract 0 B) i = kAt s i := by unfold kAt; rw [(qlp hB hi h).1]
theorem qdt {s : ByteArray} {B : Nat} (hB : B ≤ s.size) : (s.extract 0 B).size = B := by rw [ByteArray.size_extract]; omega
theorem qge (p : Int → Bool) {s : ByteArray} {B : Nat} (hB : B ≤ s.size) : ∀ (f i : Nat), B ≤ i + f → i ≤ B → Hops s i B → qf p (s.extract 0 B) i = min (qf p s i) B
 | 0, i, h, hi, _ => by
   have e : i = B := by omega
   subst e
   have := qdj p s i hB
   rw [qan (by rw [qdt hB]; omega),qdt hB]
   omega
 | f + 1, i, h, hi, hh => by
   rcases Nat.lt_or_ge i B with h1 | h1
   · obtain ⟨e1, e2, e3⟩ := qlp hB h1 hh
     have hw := yx s i
     cases hk : p (kAt s i) with
     | false =>
       rw [qao (s := s) (by omega) hk,qao (by rw [qdt hB]; exact h1) (by rw [qe0 hB h1 hh]; exact hk)]
       omega
     | true =>
       rw [qap (s := s) (by omega) hk,qap (by rw [qdt hB]; exact h1) (by rw [qe0 hB h1 hh]; exact hk),e1]
       exact qge p hB f _ (by omega) e3 e2
   · exact qge p hB 0 i (by omega) hi hh
theorem qia {s : ByteArray} {B i j : Nat} (hj : j ≤ B) : (s.extract 0 B).extract i j = s.extract i j := by
 rw [ByteArray.extract_extract,Nat.zero_add,Nat.zero_add,Nat.min_eq_left hj]
theorem qrk {s : ByteArray} {B i : Nat} (hB : B ≤ s.size) (hi : i < B) : (s.extract 0 B).get! i = s.get! i := by
 have := qeh s 0 B i hB (by omega)
 rw [Nat.zero_add] at this
 exact this
theorem q1p {s : ByteArray} {B i : Nat} (hB : B ≤ s.size) (hi : i ≤ B) (h : Hops s i B) (hn : vg s i ≤ B) : vg (s.extract 0 B) i = vg s i := by
 have hr1 := qge qj hB B i (by omega) hi h
 have hs1 := qcp qj s s.size i (by omega) (by omega)
 have hb := qaq qj s i (by omega)
 have hsz := qdt hB
 have hr : qf qj s i ≤ vg s i := by
   unfold vg
   split
   · rename_i h'; omega
   · exact Nat.le_refl _
 have e1 : qf qj (s.extract 0 B) i = qf qj s i := by rw [hr1]; omega
 have e2 : qf qj s i < B → (s.get! (qf qj s i)).toNat = 124 → qf qj (s.extract 0 B) (qf qj s i + 1) = min (qf qj s (qf qj s i + 1)) B := fun hlt h124 => by
   have hst := hs1.step (show qf qj s i < s.size by omega)
   rw [Go.Tw.decode_ascii (s := s) (i := qf qj s i) (by omega)] at hst
   exact qge qj hB B _ (by omega) (by show qf qj s i + 1 ≤ B; omega) (hst.mid h (by show qf qj s i + 1 ≤ B; omega))
 unfold vg at hn ⊢
 rw [e1,hsz]
 by_cases h2 : qf qj s i < s.size ∧ (s.get! (qf qj s i)).toNat = 124 ∧ qf qj s i + 1 < qf qj s (qf qj s i + 1)
 · rw [if_pos h2] at hn ⊢
   have hlt : qf qj s i < B := by omega
   have e3 := e2 hlt h2.2.1
   rw [qrk hB hlt,e3,if_pos ⟨hlt,h2.2.1,by omega⟩]
   omega
 · rw [if_neg h2]
   by_cases h3 : qf qj s i < B ∧ ((s.extract 0 B).get! (qf qj s i)).toNat = 124 ∧ qf qj s i + 1 < qf qj (s.extract 0 B) (qf qj s i + 1)
   · exfalso
     obtain ⟨h4,h5,h6⟩ := h3
     rw [qrk hB h4] at h5
     rw [e2 h4 h5] at h6
     exact h2 ⟨by omega,h5,by omega⟩
   · rw [if_neg h3]
theorem qrl {s : ByteArray} {B i : Nat} (hB : B ≤ s.size) (hi : i < B) (h : Hops s i B) (he : (tokZ s i).err = 0) (hst : (tokZ s i).stop ≤ B) : tokZ (s.extract 0 B) i = tokZ s i := by
 obtain ⟨e1,e2,e3⟩ := qlp hB hi h
 have ek := qe0 hB hi h
 unfold tokZ at he hst ⊢
 rw [ek,e1]
 by_cases h1 : kAt s i = 1
 · rw [if_pos h1] at he hst
   have hle : qf yk s i ≤ B := by
     split at hst <;> exact hst
   have hr := qge yk hB B i (by omega) (by omega) h
   rw [Nat.min_eq_left hle] at hr
   rw [if_pos h1,if_pos h1,hr,qia hle]
 · rw [if_neg h1] at he hst
   rw [if_neg h1,if_neg h1]
   by_cases h2 : kAt s i = 2
   · rw [if_pos h2] at he hst
     have hle : vg s i ≤ B := by
       split at hst
       · exact hst
       · split at hst <;> exact hst
     rw [if_pos h2,if_pos h2,q1p hB (by omega) h hle,qia hle]
   · rw [if_neg h2,if_neg h2,qia e3]
def qb5 (s : ByteArray) (i : Nat) : Tok := ⟨(tokZ s i).kind,(tokZ s i).text,(qr s i).1,(qr s i).2⟩
inductive v8 (s : ByteArray) : Nat → Nat → List Tok → Prop
 | refl (i : Nat) : v8 s i i []
 | blank {i j : Nat} {ts : List Tok} : i < s.size → kAt s i = 3 → v8 s (i + 1) j ts → v8 s i j ts
 | tok {i j : Nat} {ts : List Tok} : i < s.size → kAt s i ≠ 3 → (tokZ s i).err = 0 → v8 s (tokZ s i).stop j ts → v8 s i j (qb5 s i :: ts)
theorem v8.trans {s : ByteArray} {i j k : Nat} {ts us : List Tok} (h : v8 s i j ts) (h2 : v8 s j k us) : v8 s i k (ts ++ us) := by
 induction h with
 | refl => exact h2
 | blank a b _ ih => exact .blank a b (ih h2)
 | tok a b c _ ih => exact .tok a b c (ih h2)
theorem v8.hops {s : ByteArray} {i j : Nat} {ts : List Tok} (h : v8 s i j ts) : Hops s i j := by
 induction h with
 | refl => exact .refl
 | blank a b _ ih =>
   have := (Hops.refl (s := s)).step a
   rw [qhl b] at this
   exact this.trans ih
 | tok a b c _ ih => exact (qei a c).trans ih
theorem v8.few {s : ByteArray} {i j : Nat} {ts : List Tok} (h : v8 s i j ts) : i + ts.length ≤ j := by
 induction h with
 | refl => simp
 | blank a b _ ih => omega
 | tok a b c _ ih => have := qcq a c; simp only [List.length_cons]; omega
theorem v8.lex {s : ByteArray} {i j : Nat} {ts : List Tok} (h : v8 s i j ts) : ∀ out : List Tok,out.length + ts.length ≤ 4000 → z7 s i out = z7 s j (out ++ ts) := by
 induction h with
 | refl => intro out _; rw [List.append_nil]
 | blank a b _ ih => intro out hl; rw [j8 a,if_pos b]; exact ih out hl
 | tok a b c _ ih =>
   intro out hl
   simp only [List.length_cons] at hl
   rw [j8 a,if_neg b,if_neg (by omega),if_neg (not_not_intro c),ih _ (by simp; omega),List.append_assoc]
   rfl
theorem v8.all (s : ByteArray) : ∀ (f i : Nat), s.size ≤ i + f → i ≤ s.size → ∃ j ts, v8 s i j ts ∧ (j = s.size ∨ (j < s.size ∧ kAt s j ≠ 3 ∧ (tokZ s j).err ≠ 0))
 | 0,i,h,hi => ⟨i,[],.refl i,.inl (by omega)⟩
 | f + 1, i, h, hi => by
   rcases Nat.lt_or_ge i s.size with h1 | h1
   · by_cases h3 : kAt s i = 3
     · obtain ⟨j, ts, a, b⟩ := v8.all s f (i + 1) (by omega) (by omega)
       exact ⟨j,ts,.blank h1 h3 a,b⟩
     · by_cases h4 : (tokZ s i).err = 0
       · have hst := qcq h1 h4
         obtain ⟨j,ts,a,b⟩ := v8.all s f (tokZ s i).stop (by omega) hst.2
         exact ⟨j,_,.tok h1 h3 h4 a,b⟩
       · exact ⟨i,[],.refl i,.inr ⟨h1,h3,h4⟩⟩
   · exact ⟨i,[],.refl i,.inl (by omega)⟩
theorem v8.bad {s : ByteArray} {ts : List Tok} {j : Nat} (hs : s.size ≤ 4000) (h : v8 s 0 j ts) (h1 : j < s.size) (h2 : kAt s j ≠ 3) (h3 : (tokZ s j).err ≠ 0) : lexZ s = ⟨[],(qr s j).1,(qr s j).2,(tokZ s j).err⟩ := by
 have hf := h.few
 rw [qj4 (by omega),h.lex [] (by simp; omega),j8 h1,if_neg h2,if_neg (by simp; omega),if_pos h3]
theorem q1q {s x : ByteArray} (hx : Bl x) {i : Nat} (h : Hops s 0 i) : Hops (s ++ x) 0 i ∧ qr (s ++ x) i = qr s i := by
 induction h with
 | refl => exact ⟨.refl,by rw [show ((0 : Nat) : Int) = 0 from rfl,qfy,qfy]⟩
 | @step j h hj ih =>
   have hsz : (s ++ x).size = s.size + x.size := ByteArray.size_append
   have hd := qh9 hx hj
   have h1 := ih.1.step (show j < (s ++ x).size by omega)
   have h2 := qho ih.1 (show j < (s ++ x).size by omega)
   rw [hd] at h1 h2
   exact ⟨h1,by rw [h2,qho h hj,ih.2]⟩
theorem q1r {s x : ByteArray} (hx : Bl x) {i : Nat} (hi : i < s.size) (h : Hops s 0 i) : qb5 (s ++ x) i = qb5 s i := by unfold qb5; rw [qlm hx hi,(q1q hx h).2]
theorem v8.bl {s x : ByteArray} (hx : Bl x) {i j : Nat} {ts : List Tok} (h : v8 s i j ts) : Hops s 0 i → v8 (s ++ x) i j ts := by
 have hsz : (s ++ x).size = s.size + x.size := ByteArray.size_append
 induction h with
 | refl => intro _; exact .refl _
 | blank a b _ ih =>
   intro h0
   have h1 := h0.step a
   rw [qhl b] at h1
   exact .blank (by omega) (by rw [qgb hx a]; exact b) (ih h1)
 | tok a b c _ ih =>
   intro h0
   have h1 := h0.trans (qei a c)
   rw [← q1r hx a h0]
   exact .tok (by omega) (by rw [qgb hx a]; exact b) (by rw [qlm hx a]; exact c) (by rw [qlm hx a]; exact ih h1)
theorem q1s {s : ByteArray} {B i : Nat} (hB : B ≤ s.size) (h : Hops s 0 i) (hi : i ≤ B) : qr (s.extract 0 B) i = qr s i := by
 have hw := yx (s.extract 0 B) i
 obtain ⟨h1,hr⟩ := qpj (Hops.refl (s := s) (a := 0)) hB h hi
 rw [show ((0 : Nat) : Int) = 0 from rfl,qfy] at hr
 have e := hr.here (at_ := (i : Int)) (by omega) (.inl (by rw [Nat.sub_zero]; omega))
 rw [e]
 refine Prod.ext (by simp only; omega) ?_
 simp only
 split <;> omega
theorem v8.ge {s : ByteArray} {i j : Nat} {ts : List Tok} (h : v8 s i j ts) : i ≤ j := h.hops.ge
theorem v8.cut {s : ByteArray} {B i j : Nat} {ts : List Tok} (hB : B ≤ s.size) (h : v8 s i j ts) : Hops s 0 i → Hops s j B → v8 (s.extract 0 B) i j ts := by
 have hsz := qdt hB
 induction h with
 | refl => intro _ _; exact .refl _
 | @blank i j ts a b c ih =>
   intro h0 hj
   have h1 := (Hops.refl (s := s)).step a
   rw [qhl b] at h1
   have hle := (c.hops.trans hj).ge
   exact .blank (by omega) (by rw [qe0 hB (by omega) (h1.trans (c.hops.trans hj))]; exact b) (ih (h0.trans h1) hj)
 | @tok i j ts a b c d ih =>
   intro h0 hj
   have h1 := qei a c
   have hst := qcq a c
   have hle := (d.hops.trans hj).ge
   have hh := h1.trans (d.hops.trans hj)
   have ht := qrl hB (by omega) hh c hle
   have e : qb5 (s.extract 0 B) i = qb5 s i := by unfold qb5; rw [ht,q1s hB h0 (by omega)]
   rw [← e]
   exact .tok (by omega) (by rw [qe0 hB (by omega) hh]; exact b) (by rw [ht]; exact c) (by rw [ht]; exact ih (h0.trans h1) hj)
theorem v8.split {s : ByteArray} {i j : Nat} {ts : List Tok} (h : v8 s i j ts) : ∀ n (hn : n < ts.length),∃ k,v8 s i k (ts.take n) ∧ k < s.size ∧ kAt s k ≠ 3 ∧ (tokZ s k).err = 0 ∧ ts[n] = qb5 s k ∧ v8 s (tokZ s k).stop j (ts.drop (n + 1)) := by
 induction h with
 | refl => intro n hn; simp at hn
 | blank a b _ ih =>
   intro n hn
   obtain ⟨k,h1,h2⟩ := ih n hn
   exact ⟨k,.blank a b h1,h2⟩
 | @tok i j ts a b c d ih =>
   intro n hn
   cases n with
   | zero => exact ⟨i,.refl i,a,b,c,rfl,d⟩
   | succ n =>
     obtain ⟨k,h1,h2,h3,h4,h5,h6⟩ := ih n (by simpa using hn)
     exact ⟨k,.tok a b c h1,h2,h3,h4,by simpa using h5,h6⟩
structure Good (t : Tok) : Prop where
 some : 0 < t.text.size
 kind : kAt t.text 0 ≠ 3
 same : tokZ t.text 0 = ⟨t.kind,t.text,t.text.size,0⟩
theorem q1t {s : ByteArray} {i : Nat} (hi : i < s.size) (h : (tokZ s i).err = 0) : (tokZ s i).text = s.extract i (tokZ s i).stop := by
 unfold tokZ at h ⊢
 by_cases h1 : kAt s i = 1
 · rw [if_pos h1] at h ⊢
   split
   · rename_i h2; rw [if_pos h2] at h; simp at h
   · rfl
 · rw [if_neg h1] at h ⊢
   by_cases h2 : kAt s i = 2
   · rw [if_pos h2] at h ⊢
     split
     · rename_i h5; rw [if_pos h5] at h; simp at h
     · rename_i h5
       rw [if_neg h5] at h
       split
       · rfl
       · rename_i h6; rw [if_neg h6] at h; simp at h
   · rw [if_neg h2] at h ⊢
     by_cases h3 : kAt s i = 4
     · rw [if_pos h3]
     · rw [if_neg h3] at h; simp at h
theorem q1u {s : ByteArray} {i : Nat} (hi : i < s.size) (h3 : kAt s i ≠ 3) (h : (tokZ s i).err = 0) : Good (qb5 s i) := by
 have hst := qcq hi h
 have htx := q1t hi h
 have hc := qrl hst.2 hst.1 (qei hi h) h (Nat.le_refl _)
 have hsz := qdt hst.2
 have hk := qe0 hst.2 hst.1 (qei hi h)
 have hx : (s.extract 0 (tokZ s i).stop).extract i (s.extract 0 (tokZ s i).stop).size = (tokZ s i).text := by rw [hsz,qia (Nat.le_refl _),htx]
 have ht := q1o (s.extract 0 (tokZ s i).stop) i 0 (by omega)
 have hkt := qrj (s.extract 0 (tokZ s i).stop) i 0 (by omega)
 rw [Nat.add_zero,hx] at ht hkt
 have hlen : (tokZ s i).text.size = (tokZ s i).stop - i := by rw [htx,ByteArray.size_extract]; omega
 refine ⟨by show 0 < (tokZ s i).text.size; omega,by show kAt (tokZ s i).text 0 ≠ 3; rw [← hkt,hk]; exact h3,?_⟩
 show tokZ (tokZ s i).text 0 = ⟨(tokZ s i).kind,(tokZ s i).text,(tokZ s i).text.size,0⟩
 rw [hc] at ht
 generalize tokZ (tokZ s i).text 0 = y at ht
 obtain ⟨y1,y2,y3,y4⟩ := y
 have g1 := congrArg TokR.kind ht
 have g2 := congrArg TokR.text ht
 have g3 := congrArg TokR.stop ht
 have g4 := congrArg TokR.err ht
 simp only [TokR.on] at g1 g2 g3 g4
 rw [g1,g2]
 have e3 : y3 = y2.size := by rw [← g2]; omega
 have e4 : y4 = 0 := by omega
 rw [e3,e4]
theorem v8.good {s : ByteArray} {i j : Nat} {ts : List Tok} (h : v8 s i j ts) : ∀ t ∈ ts,Good t := by
 induction h with
 | refl => intro t ht; cases ht
 | blank a b _ ih => exact ih
 | tok a b c _ ih =>
   intro t ht
   rcases List.mem_cons.1 ht with rfl | ht
   · exact q1u a b c
   · exact ih t ht
inductive qdu : List Tok → List Tok → Prop
 | nil : qdu [] []
 | cons {t u : Tok} {ts us : List Tok} : (t.kind = u.kind ∧ t.text = u.text) → qdu ts us → qdu (t :: ts) (u :: us)
theorem qdu.len {ts us : List Tok} (h : qdu ts us) : ts.length = us.length := by
 induction h with
 | nil => rfl
 | cons _ _ ih => simp [ih]
theorem qdu.get {ts us : List Tok} (h : qdu ts us) : ∀ i (h1 : i < ts.length) (h2 : i < us.length),(ts[i]).kind = (us[i]).kind ∧ (ts[i]).text = (us[i]).text := by
 induction h with
 | nil => intro i h1; simp at h1
 | cons a _ ih =>
   intro i h1 h2
   cases i with
   | zero => exact a
   | succ i => exact ih i (by simpa using h1) (by simpa using h2)
structure Plus (u : ByteArray) (n : Nat) : Prop where
 le : n ≤ u.size
 few : u.size ≤ 60000
 get : ∀ i,i < n → (u.get! i).toNat = 43
theorem Plus.kAt {u : ByteArray} {n i : Nat} (h : Plus u n) (hi : i < n) : kAt u i = 4 := by
 rw [qgc (by rw [h.get i hi]; omega),h.get i hi]; decide
theorem Plus.dec {u : ByteArray} {n i : Nat} (h : Plus u n) (hi : i < n) : Utf8.decode u i = (43,1) := by
 rw [Go.Tw.decode_ascii (by rw [h.get i hi]; omega),h.get i hi]
theorem Plus.tok {u : ByteArray} {n i : Nat} (h : Plus u n) (hi : i < n) : (tokZ u i).err = 0 ∧ (tokZ u i).stop = i + 1 := by
 unfold tokZ
 rw [h.kAt hi,h.dec hi]
 exact ⟨rfl,rfl⟩
theorem Plus.place {u : ByteArray} {n : Nat} (h : Plus u n) : ∀ i, i ≤ n → Hops u 0 i ∧ qr u i = (1, (i : Int) + 1)
 | 0,_ => ⟨.refl,qfy u⟩
 | i + 1, hi => by
   have ih := h.place i (by omega)
   have hl := h.le
   have h1 := ih.1.step (show i < u.size by omega)
   have h2 := qho ih.1 (show i < u.size by omega)
   rw [h.dec (by omega)] at h1 h2
   refine ⟨h1,?_⟩
   rw [h2,if_neg (by decide),ih.2]
   exact Prod.ext rfl (by show (i : Int) + 1 + 1 = ((i + 1 : Nat) : Int) + 1; omega)
def DgS (s : ByteArray) : Prop := ∀ j,j < s.size → 48 ≤ (s.get! j).toNat ∧ (s.get! j).toNat ≤ 57
theorem qib {n : Nat} (h : n ≤ 57) : (UInt8.ofNat n).toNat = n := by
 rw [UInt8.toNat_ofNat']; omega
theorem qlq (n : Nat) : (decS n).toList = (digs n).reverse.map UInt8.ofNat := by
 rw [qb0]
 unfold decS decL js
 simp [List.map_map]
theorem qgf (n : Nat) : DgS (decS n) := by
 intro j hj
 have h1 := qel hj
 rw [qlq,List.getElem?_map] at h1
 cases hx : (digs n).reverse[j]? with
 | none => rw [hx] at h1; cases h1
 | some x =>
   rw [hx] at h1
   have hb := qo6 n x (List.mem_reverse.1 (List.mem_of_getElem? hx))
   have e := Option.some.inj h1
   rw [← e,qib hb.2]
   exact hb
theorem q1v : ∀ n : Nat,decN ((digs n).reverse.map UInt8.ofNat) = n := by
 intro n
 induction n using Nat.strongRecOn with
 | ind n ih =>
   rw [digs]
   split
   · rename_i h
     show 10 * 0 + ((UInt8.ofNat (48 + n)).toNat - 48) = n
     rw [qib (by omega)]
     omega
   · rename_i h
     rw [List.reverse_cons,List.map_append,List.map_cons,List.map_nil,qka,ih (n / 10) (by omega),qib (by omega)]
     omega
theorem qgg (n : Nat) : decN (decS n).toList = n := by rw [qlq]; exact q1v n
theorem q1w : ∀ n : Nat,10 ≤ n → ∃ x l,(digs n).reverse = x :: l ∧ x ≠ 48 := by
 intro n
 induction n using Nat.strongRecOn with
 | ind n ih =>
   intro h
   rw [digs,dif_neg (by omega),List.reverse_cons]
   by_cases h1 : n / 10 < 10
   · rw [digs, dif_pos h1]
     exact ⟨48 + n / 10,[48 + n % 10],rfl,by omega⟩
   · obtain ⟨x, l, e, hx⟩ := ih (n / 10) (by omega) (by omega)
     rw [e]
     exact ⟨x,l ++ [48 + n % 10],rfl,hx⟩
theorem qrm {n : Nat} (h : n < 10) : (decS n).size = 1 := by rw [j7,digs,dif_pos h]; rfl
theorem q1x (n : Nat) : (decS n).size = 1 ∨ ((decS n).get! 0).toNat ≠ 48 := by
 by_cases h : n < 10
 · exact .inl (qrm h)
 · refine .inr ?_
   obtain ⟨x,l,e,hx⟩ := q1w n (by omega)
   have hp := qfx n
   have h1 := qel (s := decS n) (j := 0) (by rw [j7]; exact hp)
   have hb := qo6 n x (List.mem_reverse.1 (by rw [e]; exact List.mem_cons_self))
   rw [qlq,e] at h1
   have e2 := Option.some.inj h1
   rw [← e2,qib hb.2]
   exact hx
theorem qrn {s : ByteArray} {i : Nat} (h : 48 ≤ (s.get! i).toNat ∧ (s.get! i).toNat ≤ 57) : kAt s i = 2 ∧ (Utf8.decode s i).2 = 1 := by
 have h1 : kAt s i = 2 := by
   rw [qgc (by omega)]
   exact qpa.2 ⟨by omega,by omega⟩
 exact ⟨h1,(qpb h1).1⟩
theorem qlr {s : ByteArray} {b : Nat} (hb : b ≤ s.size) (hstop : b < s.size → qj (kAt s b) = false) : ∀ (f i : Nat),b ≤ i + f → i ≤ b → (∀ j,i ≤ j → j < b → 48 ≤ (s.get! j).toNat ∧ (s.get! j).toNat ≤ 57) → qf qj s i = b := by
 intro f
 induction f with
 | zero =>
   intro i h1 h2 _
   have : i = b := by omega
   subst this
   rcases Nat.lt_or_ge i s.size with h | h
   · exact qao h (hstop h)
   · rw [qan h]; omega
 | succ f ih =>
   intro i h1 h2 hd
   by_cases hi : i < b
   · have hk := qrn (hd i (Nat.le_refl _) hi)
     rw [qap (by omega) (by rw [hk.1]; rfl),hk.2]
     exact ih (i + 1) (by omega) (by omega) fun j hj => hd j (by omega)
   · have : i = b := by omega
     subst this
     rcases Nat.lt_or_ge i s.size with h | h
     · exact qao h (hstop h)
     · rw [qan h]; omega
theorem qro {s : ByteArray} (h : DgS s) {i : Nat} (hi : i ≤ s.size) : qf qj s i = s.size :=
 qlr (Nat.le_refl _) (fun h => absurd h (Nat.lt_irrefl _)) s.size i (by omega) hi fun j _ hj => h j hj
theorem q1y {s : ByteArray} (h : DgS s) (h1 : 1 ≤ s.size) (h2 : s.size ≤ 40) (h3 : s.size = 1 ∨ (s.get! 0).toNat ≠ 48) : jm s = true := by
 unfold jm
 rw [qro h (Nat.zero_le _)]
 simp only [Bool.and_eq_true,Bool.or_eq_true,decide_eq_true_eq]
 exact ⟨⟨⟨h1,h2⟩,trivial⟩,h3⟩
theorem qls {n : Nat} (h : (digs n).length ≤ 40) : jm (decS n) = true :=
 q1y (qgf n) (by rw [j7]; exact qfx n) (by rw [j7]; exact h) (q1x n)
theorem q1z {s : ByteArray} (h : DgS s) : ∀ (f i : Nat),s.size ≤ i + f → i ≤ s.size → yh s (s.size - i) i = s.size := by
 intro f
 induction f with
 | zero => intro i h1 h2; exact qpg (by omega)
 | succ f ih =>
   intro i h1 h2
   rcases Nat.lt_or_ge i s.size with hi | hi
   · rw [qpf hi (by have := h i hi; omega)]
     exact ih (i + 1) (by omega) hi
   · exact qpg hi
theorem q10 {s : ByteArray} (h : DgS s) : cutZ s = s.size := q1z h s.size 0 (by omega) (Nat.zero_le _)
theorem q11 {s : ByteArray} {b : Nat} (hb : b < s.size) (h1 : (s.get! b).toNat = 124) (h : ∀ j,j < b → (s.get! j).toNat ≠ 124) : cutZ s = b := by
 have key : ∀ (f i : Nat),b ≤ i + f → i ≤ b → yh s (s.size - i) i = b := by
   intro f
   induction f with
   | zero =>
     intro i k1 k2
     have : i = b := by omega
     subst this
     exact qpe hb h1
   | succ f ih =>
     intro i k1 k2
     by_cases hi : i < b
     · rw [qpf (by omega) (h i hi)]
       exact ih (i + 1) (by omega) hi
     · have : i = b := by omega
       subst this
       exact qpe hb h1
 exact key b 0 (by omega) (Nat.zero_le _)
def ratS (q : Rat) : ByteArray := if q.den = 1 then decS q.num.natAbs else decS q.num.natAbs ++ ⟨#[124]⟩ ++ decS q.den
structure NumS (s : ByteArray) (q : Rat) : Prop where
 num : numZ s = true
 val : numQ s = q
 good : Good ⟨1,s,0,0⟩
theorem qrp {s : ByteArray} (h0 : 0 < s.size) (hd : 48 ≤ (s.get! 0).toNat ∧ (s.get! 0).toNat ≤ 57) (hn : numZ s = true) (he : vg s 0 = s.size) (hc : cutZ s ≤ 40) (hc2 : s.size - cutZ s ≤ 41) : Good ⟨1,s,0,0⟩ := by
 have hk := (qrn hd).1
 refine ⟨h0,by show kAt s 0 ≠ 3; rw [hk]; decide,?_⟩
 show tokZ s 0 = ⟨1,s,s.size,0⟩
 unfold tokZ
 rw [if_neg (by rw [hk]; decide),if_pos hk,he,qhr,if_neg (by omega),if_pos hn]
theorem q12 {n : Nat} (h : (digs n).length ≤ 40) : NumS (decS n) (mkRat n 1) := by
 have hd := qgf n
 have hp := qls h
 have hs : 0 < (decS n).size := by rw [j7]; exact qfx n
 have hc := q10 hd
 have hn : numZ (decS n) = true := by unfold numZ; rw [if_pos hc]; exact hp
 refine ⟨hn,?_,qrp hs (hd 0 hs) hn ?_ (by rw [hc,j7]; exact h) (by rw [hc]; omega)⟩
 · unfold numQ
   rw [if_pos hc,hc,qhr,qgg]
 · unfold vg
   rw [qro hd (Nat.zero_le _),if_neg (by omega)]
theorem q13 {n d : Nat} (h : (digs n).length ≤ 40) (h2 : (digs d).length ≤ 40) (hd0 : d ≠ 0) : NumS (decS n ++ ⟨#[124]⟩ ++ decS d) (mkRat n d) := by
 generalize hs : decS n ++ (⟨#[124]⟩ : ByteArray) ++ decS d = s
 have hdn := qgf n
 have hdd := qgf d
 have hn0 : 0 < (decS n).size := by rw [j7]; exact qfx n
 have hd1 : 0 < (decS d).size := by rw [j7]; exact qfx d
 have hn4 : (decS n).size ≤ 40 := by rw [j7]; exact h
 have hd4 : (decS d).size ≤ 40 := by rw [j7]; exact h2
 have hsz : s.size = (decS n).size + 1 + (decS d).size := by rw [← hs,ByteArray.size_append,ByteArray.size_append]; rfl
 have hsz1 : (decS n ++ (⟨#[124]⟩ : ByteArray)).size = (decS n).size + 1 := by rw [ByteArray.size_append]; rfl
 have g1 : ∀ j,j < (decS n).size → s.get! j = (decS n).get! j := fun j hj => by rw [← hs,qco _ _ _ (by omega),qco _ _ _ hj]
 have g2 : (s.get! (decS n).size).toNat = 124 := by
   rw [← hs,qco _ _ _ (by omega)]
   have := qjy (decS n) ⟨#[124]⟩ 0
   rw [Nat.add_zero] at this
   rw [this]; rfl
 have g3 : ∀ j, s.get! ((decS n).size + 1 + j) = (decS d).get! j := fun j => by
   rw [← hs,← hsz1]; exact qjy _ _ _
 have hcut : cutZ s = (decS n).size := q11 (by omega) g2 fun j hj => by rw [g1 j hj]; have := hdn j hj; omega
 have x1 : s.extract 0 (decS n).size = decS n := by rw [← hs,ByteArray.append_assoc]; exact ByteArray.extract_append_eq_left rfl
 have x2 : s.extract ((decS n).size + 1) s.size = decS d := by
   have := qyc (decS n ++ (⟨#[124]⟩ : ByteArray)) (decS d)
   rw [hs,hsz1] at this
   exact this
 have hnot : ((decS d).toList == (ByteArray.mk #[48]).toList) = false := by
   rw [beq_eq_false_iff_ne]
   intro e
   have := qgg d
   rw [e,qb0] at this
   exact hd0 this.symm
 have hn : numZ s = true := by
   unfold numZ
   rw [if_neg (by omega),hcut,x1,x2,qls h,qls h2,hnot]
   rfl
 have r1 : qf qj s 0 = (decS n).size := qlr (by omega) (fun _ => by
   rw [qgc (by omega),g2]; rfl) s.size 0 (by omega) (Nat.zero_le _) fun j _ hj => by rw [g1 j hj]; exact hdn j hj
 have r2 : qf qj s ((decS n).size + 1) = s.size := qlr (Nat.le_refl _) (fun h => absurd h (Nat.lt_irrefl _)) s.size _ (by omega) (by omega) fun j h1 h2 => by
   obtain ⟨k,rfl⟩ : ∃ k,j = (decS n).size + 1 + k := ⟨j - ((decS n).size + 1),by omega⟩
   rw [g3]; exact hdd k (by omega)
 refine ⟨hn,?_,qrp (by omega) (by rw [g1 0 hn0]; exact hdn 0 hn0) hn ?_ (by omega) (by omega)⟩
 · unfold numQ
   rw [if_neg (by omega),hcut,x1,x2,qgg,qgg]
 · unfold vg
   rw [r1,if_pos ⟨by omega,g2,by rw [r2]; omega⟩,r2]
theorem q14 {q : Rat} (h0 : 0 ≤ q.num) (h1 : (digs q.num.natAbs).length ≤ 40) (h2 : (digs q.den).length ≤ 40) : NumS (ratS q) q := by
 have e : ((q.num.natAbs : Nat) : Int) = q.num := by omega
 have hq : mkRat (q.num.natAbs : Int) q.den = q := by rw [e]; exact Rat.mkRat_self q
 unfold ratS
 split
 · rename_i hd
   have := q12 h1
   rw [hd] at hq
   rw [hq] at this
   exact this
 · have := q13 h1 h2 q.den_nz
   rw [hq] at this
   exact this
theorem qrq {n : Nat} (h : n ≤ 20) : yl (decS n) = some n := by
 have hv := qgg n
 have hd := qgf n
 unfold yl
 by_cases h1 : n < 10
 · rw [if_pos (qrm h1),hv]
 · have hs : (decS n).size = 2 := by rw [j7, digs, dif_neg h1, digs, dif_pos (by omega)]; rfl
   rw [if_neg (by omega),if_pos ⟨hs,by have := hd 1 (by omega); omega,by rw [hv]; exact h⟩,hv]
def tk (k : Int) (s : ByteArray) : Tok := ⟨k,s,0,0⟩
def qad (k : Int) : ByteArray := if k = 2 then zk else if k = 3 then vf else if k = 4 then qaa else qa3
def qic : List ByteArray → List Tok
 | [] => [tk 2 ye]
 | s :: l => tk 2 qab :: tk 0 s :: qic l
def qe1 (key : ByteArray) : List ByteArray → List Tok
 | [] => [tk 0 key,tk 2 ye]
 | s :: l => tk 0 key :: tk 0 s :: qic l
theorem j9 (k : Int) (s : ByteArray) : isT (tk k s) k s = true := by simp [isT,tk]
theorem ja {k : Int} {s t : ByteArray} (h : s.data.toList ≠ t.data.toList) : isT (tk k s) k t = false := by
 unfold isT tk
 rw [qb0,qb0]
 have : (s.data.toList == t.data.toList) = false := by simpa using h
 rw [this,Bool.and_false]
theorem qlt {x : Tok} {k : Int} {t : ByteArray} (h : x.kind ≠ k) : isT x k t = false := by simp [isT,h]
structure Ends (r : List Tok) : Prop where
 pw : hdT r 2 Go.Tw.caret = false
 ml : hdK mulK r = none
 ad : hdK addK r = none
theorem qid {x : Tok} (h1 : isT x 2 qaa = false) (h2 : isT x 2 qa3 = false) : mulK x = none := by unfold mulK; rw [if_neg (by rw [h1]; decide),if_neg (by rw [h2]; decide)]
theorem qrr {x : Tok} (h1 : isT x 2 zk = false) (h2 : isT x 2 vf = false) : addK x = none := by unfold addK; rw [if_neg (by rw [h1]; decide),if_neg (by rw [h2]; decide)]
theorem q15 (r : List Tok) : Ends (tk 2 rpar :: r) := ⟨ja (by decide),qid (ja (by decide)) (ja (by decide)),qrr (ja (by decide)) (ja (by decide))⟩
theorem q16 (r : List Tok) : Ends (tk 2 ye :: r) := ⟨ja (by decide),qid (ja (by decide)) (ja (by decide)),qrr (ja (by decide)) (ja (by decide))⟩
theorem sign_pow (k : Int) (r : List Tok) : hdT (tk 2 (qad k) :: r) 2 Go.Tw.caret = false := by
 unfold qad
 split
 · exact ja (by decide)
 · split
   · exact ja (by decide)
   · split <;> exact ja (by decide)
theorem sign_mul {k : Int} (h : k = 4 ∨ k = 5) : mulK (tk 2 (qad k)) = some k := by
 rcases h with rfl | rfl
 · show mulK (tk 2 qaa) = some 4; unfold mulK; rw [if_pos (j9 2 qaa)]
 · show mulK (tk 2 qa3) = some 5; unfold mulK; rw [if_neg (by rw [ja (by decide)]; decide),if_pos (j9 2 qa3)]
theorem q17 {k : Int} (h : k = 2 ∨ k = 3) : addK (tk 2 (qad k)) = some k ∧ mulK (tk 2 (qad k)) = none := by
 rcases h with rfl | rfl
 · exact ⟨by show addK (tk 2 zk) = some 2; unfold addK; rw [if_pos (j9 2 zk)],qid (ja (by decide)) (ja (by decide))⟩
 · exact ⟨by show addK (tk 2 vf) = some 3; unfold addK; rw [if_neg (by rw [ja (by decide)]; decide),if_pos (j9 2 vf)],qid (ja (by decide)) (ja (by decide))⟩
theorem qlu : ∀ (l : List ByteArray) (s : ByteArray) (r : List Tok), vt s = true → qat l → q9 (tk 0 s :: (qic l ++ r)) = .ok (s :: l) r
 | [], s, r, h, _ => by
   have hn : yf (tk 0 s) = true := by unfold yf tk; rw [h]; rfl
   show q9 (tk 0 s :: tk 2 ye :: r) = _
   rw [q9,if_pos hn,if_neg (by rw [ja (by decide)]; decide),if_pos (j9 2 ye)]
   rfl
 | t :: l, s, r, h, hl => by
   have hn : yf (tk 0 s) = true := by unfold yf tk; rw [h]; rfl
   have ih := qlu l t r (hl t List.mem_cons_self) fun b hb => hl b (List.mem_cons_of_mem _ hb)
   show q9 (tk 0 s :: tk 2 qab :: (tk 0 t :: (qic l ++ r))) = _
   rw [q9,if_pos hn,if_pos (j9 2 qab),ih]
   rfl
def st (t : Tok) : Tok := tk t.kind t.text
theorem qe2 (x : Tok) (k : Int) (t : ByteArray) : isT (st x) k t = isT x k t := by cases x; rfl
theorem qe3 (r : List Tok) (k : Int) (t : ByteArray) : hdT (r.map st) k t = hdT r k t := by cases r <;> rfl
theorem q18 (r : List Tok) : hdK mulK (r.map st) = hdK mulK r := by cases r <;> rfl
theorem q19 (r : List Tok) : hdK addK (r.map st) = hdK addK r := by cases r <;> rfl
def _root_.Go.Tw.POut.st : POut → POut
 | .bad r => .bad (r.map Go.Proofs.YtfcmhcaggdakbaaGreatDoor.st)
 | .ok a r => .ok a (r.map Go.Proofs.YtfcmhcaggdakbaaGreatDoor.st)
theorem q2a (r : List Tok) : qaw (r.map st) = ((qaw r).1,(qaw r).2.map st) := by
 cases r with
 | nil => rfl
 | cons x r =>
   simp only [List.map_cons,qaw,qe2]
   by_cases c : isT x 2 vf = true
   · rw [if_pos c, if_pos c]
     cases r with
     | nil => rfl
     | cons y r =>
       by_cases hk : y.kind = 1
       · have hk' : (st y).kind = 1 := hk
         cases he : yl y.text with
         | none => have he' : yl (st y).text = none := he; simp only [List.map_cons,if_pos hk,if_pos hk',he,he']
         | some n => have he' : yl (st y).text = some n := he; simp only [List.map_cons,if_pos hk,if_pos hk',he,he']
       · have hk' : ¬ (st y).kind = 1 := hk
         simp only [List.map_cons,if_neg hk,if_neg hk']
   · rw [if_neg c, if_neg c]
     by_cases hk : x.kind = 1
     · have hk' : (st x).kind = 1 := hk
       cases he : yl x.text with
       | none => have he' : yl (st x).text = none := he; simp only [if_pos hk,if_pos hk',he,he',List.map_cons]
       | some n => have he' : yl (st x).text = some n := he; simp only [if_pos hk,if_pos hk',he,he',List.map_cons]
     · have hk' : ¬ (st x).kind = 1 := hk
       simp only [if_neg hk,if_neg hk',List.map_cons]
theorem q2b : ∀ (f : Nat) (lv : Lv) (all : List NodeC) (r : List Tok),psF f lv all (r.map st) = (psF f lv all r).st := by
 intro f
 induction f with
 | zero => intro lv all r; rfl
 | succ f ih =>
   intro lv all r
   cases lv with
   | atom =>
     cases r with
     | nil => rfl
     | cons x r =>
       simp only [List.map_cons,psF,qe2]
       by_cases c : isT x 2 lpar = true
       · rw [if_pos c, if_pos c, ih]
         cases psF f .sum all r with
         | bad r1 => rfl
         | ok a r1 =>
           simp only [POut.st,qe3]
           by_cases c2 : hdT r1 2 rpar = true
           · rw [if_pos c2,if_pos c2,← List.map_drop]
           · rw [if_neg c2,if_neg c2]
       · rw [if_neg c, if_neg c]
         have hl : yy (st x) = yy x := by cases x; rfl
         rw [hl]
         by_cases c2 : yy x = true
         · rw [if_pos c2,if_pos c2]; rfl
         · rw [if_neg c2,if_neg c2]; rfl
   | powL =>
     cases r with
     | nil => rfl
     | cons x r =>
       simp only [List.map_cons,psF,qe2]
       by_cases c : isT x 2 Go.Tw.caret = true
       · rw [if_pos c, if_pos c, q2a]
         rcases qaw r with ⟨e,r1⟩
         cases e <;> rfl
       · rw [if_neg c,if_neg c]; rfl
   | power =>
     simp only [psF]
     rw [ih]
     cases psF f .atom all r with
     | bad r1 => rfl
     | ok a r1 => exact ih _ _ _
   | factor =>
     cases r with
     | nil => exact ih .power all []
     | cons x r =>
       simp only [List.map_cons,psF,qe2]
       by_cases c : isT x 2 vf = true
       · rw [if_pos c, if_pos c, ih]
         cases psF f .factor all r with
         | bad r1 => rfl
         | ok a r1 => rfl
       · rw [if_neg c, if_neg c]
         have := ih .power all (x :: r)
         rw [List.map_cons] at this
         exact this
   | prodL =>
     simp only [psF,q18]
     cases hdK mulK r with
     | none => rfl
     | some k =>
       dsimp only
       rw [← List.map_drop,ih]
       cases psF f .factor all (r.drop 1) with
       | bad r1 => rfl
       | ok a r1 => exact ih _ _ _
   | product =>
     simp only [psF]
     rw [ih]
     cases psF f .factor all r with
     | bad r1 => rfl
     | ok a r1 => exact ih _ _ _
   | sumL =>
     simp only [psF,q19]
     cases hdK addK r with
     | none => rfl
     | some k =>
       dsimp only
       rw [← List.map_drop,ih]
       cases psF f .product all (r.drop 1) with
       | bad r1 => rfl
       | ok a r1 => exact ih _ _ _
   | sum =>
     simp only [psF]
     rw [ih]
     cases psF f .product all r with
     | bad r1 => rfl
     | ok a r1 => exact ih _ _ _
def _root_.Go.Tw.NOut.st : NOut → NOut
 | .bad r => .bad (r.map Go.Proofs.YtfcmhcaggdakbaaGreatDoor.st)
 | .ok l r => .ok l (r.map Go.Proofs.YtfcmhcaggdakbaaGreatDoor.st)
theorem qlv : ∀ (r : List Tok), q9 (r.map st) = (q9 r).st
 | [] => rfl
 | [x] => by
   show NOut.bad (if yf x = true then [] else [st x]) = (NOut.bad (if yf x = true then [] else [x])).st
   by_cases c : yf x = true
   · rw [if_pos c,if_pos c]; rfl
   · rw [if_neg c,if_neg c]; rfl
 | x :: y :: r => by
   have ih := qlv r
   rw [List.map_cons,List.map_cons,q9,q9]
   have e1 : yf (st x) = yf x := by cases x; rfl
   rw [e1,qe2,qe2]
   by_cases c : yf x = true
   · rw [if_pos c, if_pos c]
     by_cases c2 : isT y 2 qab = true
     · rw [if_pos c2, if_pos c2, ih]
       cases q9 r <;> rfl
     · rw [if_neg c2, if_neg c2]
       by_cases c3 : isT y 2 ye = true
       · rw [if_pos c3,if_pos c3]; rfl
       · rw [if_neg c3,if_neg c3]; rfl
   · rw [if_neg c,if_neg c]; rfl
def _root_.Go.Tw.LO.st : LO → LO
 | .bad r => .bad (r.map Go.Proofs.YtfcmhcaggdakbaaGreatDoor.st)
 | .ok n a r => .ok n a (r.map Go.Proofs.YtfcmhcaggdakbaaGreatDoor.st)
theorem q2c (all : List NodeC) (r : List Tok) : lt1F all (r.map st) = (lt1F all r).st := by
 cases r with
 | nil => rfl
 | cons x r =>
   simp only [List.map_cons,lt1F]
   have e1 : yf (st x) = yf x := by cases x; rfl
   rw [e1,qe3]
   by_cases c : yf x = true
   · rw [if_pos c, if_pos c]
     by_cases c2 : hdT r 2 je = true
     · rw [if_pos c2, if_pos c2, List.length_map, ← List.map_drop, q2b]
       cases psF (8 * r.length + 5) .sum all (r.drop 1) with
       | bad r1 => rfl
       | ok a r1 =>
         simp only [POut.st,qe3]
         by_cases c3 : hdT r1 2 ye = true
         · rw [if_pos c3,if_pos c3,← List.map_drop]; rfl
         · rw [if_neg c3,if_neg c3]; rfl
     · rw [if_neg c2,if_neg c2]; rfl
   · rw [if_neg c,if_neg c]; rfl
def _root_.Go.Tw.LSO.st : LSO → LSO
 | .bad r => .bad (r.map Go.Proofs.YtfcmhcaggdakbaaGreatDoor.st)
 | .ok l a r => .ok l a (r.map Go.Proofs.YtfcmhcaggdakbaaGreatDoor.st)
theorem q2d : ∀ (f : Nat) (ls : List LetC) (all : List NodeC) (r : List Tok),ltsF f ls all (r.map st) = (ltsF f ls all r).st := by
 intro f
 induction f with
 | zero => intro ls all r; rfl
 | succ f ih =>
   intro ls all r
   simp only [ltsF,qe3]
   by_cases c : hdT r 0 letS = true
   · rw [if_pos c, if_pos c, ← List.map_drop, q2c]
     cases lt1F all (r.drop 1) with
     | bad r1 => rfl
     | ok n a r1 => exact ih _ _ _
   · rw [if_neg c,if_neg c]; rfl
def _root_.Go.Tw.PO.st : PO → PO
 | .bad r => .bad (r.map Go.Proofs.YtfcmhcaggdakbaaGreatDoor.st)
 | .ok p => .ok p
theorem q2e (r : List Tok) : prgF (r.map st) = (prgF r).st := by
 simp only [prgF,qe3]
 by_cases c : hdT r 0 inS = true
 · rw [if_pos c, if_pos c, ← List.map_drop, qlv]
   cases q9 (r.drop 1) with
   | bad r1 => rfl
   | ok ins r1 =>
     simp only [NOut.st]
     rw [List.length_map,q2d]
     cases ltsF (r1.length + 1) [] [] r1 with
     | bad r2 => rfl
     | ok ls all r2 =>
       simp only [LSO.st,qe3]
       by_cases c2 : hdT r2 0 outS = true
       · rw [if_pos c2, if_pos c2, ← List.map_drop, qlv]
         cases q9 (r2.drop 1) with
         | bad r3 => rfl
         | ok outs r3 => cases r3 <;> rfl
       · rw [if_neg c2,if_neg c2]; rfl
 · rw [if_neg c,if_neg c]; rfl
theorem q2f {L T : List Tok} {p : qv} (h : L.map st = T) (hT : Prg T (.ok p)) : prgZ L = .ok p := by
 have h1 := q2e L
 rw [h,qrg hT] at h1
 rw [q1k]
 cases e : prgF L with
 | bad r => rw [e] at h1; cases h1
 | ok q => rw [e] at h1; cases h1; rfl
def Cl (b : UInt8) : Prop := b ≠ 32 ∧ b ≠ 59 ∧ b ≠ 61
def ClS (s : ByteArray) : Prop := ∀ b ∈ s.data.toList,Cl b
def NoS (s : ByteArray) : Prop := ∀ b ∈ s.data.toList,b ≠ 32 ∧ b ≠ 61
theorem ClS.no {s : ByteArray} (h : ClS s) : NoS s := fun b hb => ⟨(h b hb).1,(h b hb).2.2⟩
def bk (l : List UInt8) : ByteArray := ⟨l.toArray⟩
def tksZ (l : List Tok) : List Tok := l.filter fun t => t.kind != 3
theorem qie (a b : List Tok) : tksZ (a ++ b) = tksZ a ++ tksZ b := by unfold tksZ; rw [List.filter_append]
def ym : Ex → Int
 | .ref _ => 5
 | .num _ => 5
 | .neg _ => 3
 | .pow _ _ => 4
 | .bin k _ _ => if 4 ≤ k then 2 else 1
theorem q2g (x : Ex) : 1 ≤ ym x := by
 cases x <;> simp only [ym] <;> (try split) <;> omega
def gp : Tok := tk 3 ⟨#[32]⟩
def expP (e : Int) : List Tok := (if e < 0 then [tk 2 vf] else []) ++ [tk 1 (decS e.natAbs)]
def brk (m : Bool) (l : List Tok) : List Tok := if m then tk 2 lpar :: (l ++ [tk 2 rpar]) else l
def shP : Ex → List Tok
 | .ref t => [tk 0 t]
 | .num q => [tk 1 (ratS q)]
 | .neg x => tk 2 vf :: brk (decide (ym x < 3)) (shP x)
 | .pow x e => brk (decide (ym x < 5)) (shP x) ++ tk 2 Go.Tw.caret :: expP e
 | .bin k x y => brk (decide (ym x < if 4 ≤ k then 2 else 1)) (shP x) ++ gp :: tk 2 (qad k) :: gp :: brk (decide (ym y < (if 4 ≤ k then 2 else 1) + 1)) (shP y)
theorem qif (m : Bool) (l : List Tok) : tksZ (brk m l) = brk m (tksZ l) := by
 cases m with
 | false => rfl
 | true =>
   show tksZ (tk 2 lpar :: (l ++ [tk 2 rpar])) = tk 2 lpar :: (tksZ l ++ [tk 2 rpar])
   have e : tk 2 lpar :: (l ++ [tk 2 rpar]) = [tk 2 lpar] ++ (l ++ [tk 2 rpar]) := rfl
   rw [e,qie,qie]
   rfl
def TA (L : List Tok) (x : Ex) : Prop := ∀ (all : List NodeC) (r : List Tok) (o : POut),hdT r 2 Go.Tw.caret = false → hdK mulK r = none → Ps .sumL (all ++ x.nd all.length) r o → Ps .sum all (L ++ r) o
def TB (L : List Tok) (x : Ex) : Prop := ∀ (all : List NodeC) (r : List Tok) (o : POut),hdT r 2 Go.Tw.caret = false → Ps .prodL (all ++ x.nd all.length) r o → Ps .product all (L ++ r) o
def TCf (L : List Tok) (x : Ex) : Prop := ∀ (all : List NodeC) (r : List Tok),hdT r 2 Go.Tw.caret = false → Ps .factor all (L ++ r) (.ok (all ++ x.nd all.length) r)
def TDp (L : List Tok) (x : Ex) : Prop := (∀ r,hdT (L ++ r) 2 vf = false) ∧ ∀ (all : List NodeC) (r : List Tok),hdT r 2 Go.Tw.caret = false → Ps .power all (L ++ r) (.ok (all ++ x.nd all.length) r)
def TEa (L : List Tok) (x : Ex) : Prop := (∀ r,hdT (L ++ r) 2 vf = false) ∧ ∀ (all : List NodeC) (r : List Tok),Ps .atom all (L ++ r) (.ok (all ++ x.nd all.length) r)
theorem qig {L : List Tok} {x : Ex} (h : TEa L x) : TDp L x := ⟨h.1,fun all r hr => .power_ok (h.2 all r) (.pow_none hr)⟩
theorem qe4 {L : List Tok} {x : Ex} (h : TDp L x) : TCf L x := fun all r hr => .fac (h.1 r) (h.2 all r hr)
theorem qe5 {L : List Tok} {x : Ex} (h : TCf L x) : TB L x := fun all r o hr ho => .product_ok (h all r hr) ho
theorem qih {L : List Tok} {x : Ex} (h : TB L x) : TA L x := fun all r o hr hm ho => .sum_ok (h all r _ hr (.prodL_end hm)) ho
def Own (L : List Tok) (x : Ex) (b : Int) : Prop := (5 ≤ b → TEa L x) ∧ (4 ≤ b → TDp L x) ∧ (3 ≤ b → TCf L x) ∧ (2 ≤ b → TB L x) ∧ TA L x
theorem qlw {L : List Tok} {x : Ex} {b : Int} (h : TEa L x) : Own L x b := ⟨fun _ => h,fun _ => qig h,fun _ => qe4 (qig h),fun _ => qe5 (qe4 (qig h)),qih (qe5 (qe4 (qig h)))⟩
theorem q2h {L : List Tok} {x : Ex} (h : TDp L x) : Own L x 4 := ⟨fun h => absurd h (by decide),fun _ => h,fun _ => qe4 h,fun _ => qe5 (qe4 h),qih (qe5 (qe4 h))⟩
theorem q2i {L : List Tok} {x : Ex} (h : TCf L x) : Own L x 3 := ⟨fun h => absurd h (by decide),fun h => absurd h (by decide),fun _ => h,fun _ => qe5 h,qih (qe5 h)⟩
theorem q2j {L : List Tok} {x : Ex} (h : TB L x) : Own L x 2 := ⟨fun h => absurd h (by decide),fun h => absurd h (by decide),fun h => absurd h (by decide),fun _ => h,qih h⟩
theorem q2k {L : List Tok} {x : Ex} (h : TA L x) : Own L x 1 := ⟨fun h => absurd h (by decide),fun h => absurd h (by decide),fun h => absurd h (by decide),fun h => absurd h (by decide),h⟩
theorem q2l {L : List Tok} {x : Ex} (h : TA L x) : TEa (tk 2 lpar :: (L ++ [tk 2 rpar])) x := by
 refine ⟨fun r => ja (by decide),fun all r => ?_⟩
 have he := q15 r
 have h1 := h all (tk 2 rpar :: r) _ he.pw he.ml (.sumL_end he.ad)
 have e : (tk 2 lpar :: (L ++ [tk 2 rpar])) ++ r = tk 2 lpar :: (L ++ (tk 2 rpar :: r)) := by simp
 rw [e]
 exact .par_ok (j9 2 lpar) h1 (j9 2 rpar)
theorem qe6 {L : List Tok} {x : Ex} {b : Int} (h : Own L x b) (m : Int) (hm : m ≤ 5) : Own (brk (decide (b < m)) L) x m := by
 unfold brk
 by_cases hb : b < m
 · rw [decide_eq_true hb, if_pos rfl]
   exact qlw (q2l h.2.2.2.2)
 · rw [decide_eq_false hb, if_neg (by decide)]
   exact ⟨fun h5 => h.1 (by omega),fun h5 => h.2.1 (by omega),fun h5 => h.2.2.1 (by omega),fun h5 => h.2.2.2.1 (by omega),h.2.2.2.2⟩
theorem q2m {e : Int} (h : -20 ≤ e ∧ e ≤ 20) (r : List Tok) : Expo (expP e ++ r) (some e) r := by
 unfold expP
 by_cases he : e < 0
 · rw [if_pos he]
   have h1 := Expo.neg (x := tk 2 vf) (y := tk 1 (decS e.natAbs)) (r := r) (j9 2 vf) rfl (qrq (n := e.natAbs) (by omega))
   rw [show -((e.natAbs : Nat) : Int) = e by omega] at h1
   exact h1
 · rw [if_neg he]
   have h1 := Expo.pos (y := tk 1 (decS e.natAbs)) (r := r) (qlt (by show (1 : Int) ≠ 2; decide)) rfl (qrq (n := e.natAbs) (by omega))
   rw [show ((e.natAbs : Nat) : Int) = e by omega] at h1
   exact h1
theorem q2n (e : Int) : tksZ (expP e) = expP e := by
 unfold expP
 split <;> rfl
theorem qlx {t : Tok} {r : List Tok} (h : t.kind ≠ 3) : tksZ (t :: r) = t :: tksZ r := by unfold tksZ; rw [List.filter_cons,if_pos (by simp [h])]
theorem qrs {t : Tok} {r : List Tok} (h : t.kind = 3) : tksZ (t :: r) = tksZ r := by unfold tksZ; rw [List.filter_cons,if_neg (by rw [h]; decide)]
theorem q2o : ∀ (x : Ex),x.ok → Own (tksZ (shP x)) x (ym x) := by
 intro x
 induction x with
 | ref t =>
   intro h
   refine qlw ⟨fun r => qlt (by show (0 : Int) ≠ 2; decide),fun all r => ?_⟩
   have h1 : yy (tk 0 t) = true := by unfold yy tk; rw [show vt t = true from h]; rfl
   have h2 := Ps.leaf (all := all) (r := r) h1
   rw [show qar (tk 0 t) = refN t from if_neg (by show ¬ (0 : Int) = 1; decide)] at h2
   exact h2
 | num q =>
   intro h
   refine qlw ⟨fun r => qlt (by show (1 : Int) ≠ 2; decide),fun all r => ?_⟩
   have hn := q14 h.1 h.2.1 h.2.2
   have h2 := Ps.leaf (all := all) (x := tk 1 (ratS q)) (r := r) rfl
   rw [show qar (tk 1 (ratS q)) = numN (numQ (ratS q)) from if_pos rfl,hn.val] at h2
   exact h2
 | neg x ih =>
   intro h
   have h1 := (qe6 (ih h) 3 (by decide)).2.2.1 (Int.le_refl _)
   refine q2i fun all r hr => ?_
   have h2 := h1 all r hr
   have h3 := Ps.neg_ok (x := tk 2 vf) (j9 2 vf) h2
   rw [zf] at h3
   rw [shP,qlx (by show (2 : Int) ≠ 3; decide),qif]
   simp only [Ex.nd,← List.append_assoc]
   exact h3
 | pow x e ih =>
   intro h
   have h1 := (qe6 (ih h.1) 5 (by decide)).1 (Int.le_refl _)
   have e0 : tksZ (shP (.pow x e)) = brk (decide (ym x < 5)) (tksZ (shP x)) ++ tk 2 Go.Tw.caret :: expP e := by
     rw [shP,qie,qif,qlx (by show (2 : Int) ≠ 3; decide),q2n]
   rw [e0]
   generalize brk (decide (ym x < 5)) (tksZ (shP x)) = L at h1
   refine q2h ⟨fun r => by rw [List.append_assoc]; exact h1.1 _,fun all r hr => ?_⟩
   have h2 := h1.2 all (tk 2 Go.Tw.caret :: (expP e ++ r))
   have h3 : Ps .power all (L ++ tk 2 Go.Tw.caret :: (expP e ++ r)) _ := .power_ok h2 (.pow_ok (j9 2 Go.Tw.caret) (q2m h.2 r))
   rw [zf] at h3
   have e2 : (L ++ tk 2 Go.Tw.caret :: expP e) ++ r = L ++ tk 2 Go.Tw.caret :: (expP e ++ r) := by simp
   rw [e2]
   simp only [Ex.nd,← List.append_assoc]
   exact h3
 | bin k x y ih1 ih2 =>
   intro h
   obtain ⟨k2,k5,hx,hy⟩ := h
   have ih1 := ih1 hx
   have ih2 := ih2 hy
   have e0 : tksZ (shP (.bin k x y)) = brk (decide (ym x < if 4 ≤ k then 2 else 1)) (tksZ (shP x)) ++ tk 2 (qad k) :: brk (decide (ym y < (if 4 ≤ k then 2 else 1) + 1)) (tksZ (shP y)) := by
     rw [shP,qie,qif,qrs rfl,qlx (by show (2 : Int) ≠ 3; decide),qrs rfl,qif]
   rw [e0]
   have enodes : ∀ all : List NodeC, all ++ x.nd all.length ++ y.nd (all ++ x.nd all.length).length ++ [binN k (vr (all ++ x.nd all.length)) (vr (all ++ x.nd all.length ++ y.nd (all ++ x.nd all.length).length))] = all ++ (Ex.bin k x y).nd all.length := fun all => by
     have hlen : (all ++ x.nd all.length).length = all.length + x.n := by rw [List.length_append,x.nd_len]
     have hla : vr (all ++ x.nd all.length ++ y.nd (all ++ x.nd all.length).length) = (all.length : Int) + x.n + y.n - 1 := by
       rw [zf,hlen]; omega
     rw [hla,zf,hlen]
     simp only [Ex.nd,List.append_assoc]
   by_cases hk : 4 ≤ k
   · rw [if_pos hk]
     have eb : ym (.bin k x y) = 2 := if_pos hk
     rw [eb]
     have h1 := (qe6 ih1 2 (by decide)).2.2.2.1 (Int.le_refl _)
     have h2 := (qe6 ih2 (2 + 1) (by decide)).2.2.1 (Int.le_refl _)
     generalize brk (decide (ym x < 2)) (tksZ (shP x)) = L at h1
     generalize brk (decide (ym y < 2 + 1)) (tksZ (shP y)) = M at h2
     refine q2j fun all r o hr ho => ?_
     have hm := sign_mul (k := k) (by omega)
     have h3 := h2 (all ++ x.nd all.length) r hr
     rw [← enodes] at ho
     have h4 := h1 all (tk 2 (qad k) :: (M ++ r)) o (sign_pow k _) (.prodL_ok hm h3 ho)
     have e2 : (L ++ tk 2 (qad k) :: M) ++ r = L ++ tk 2 (qad k) :: (M ++ r) := by simp
     rw [e2]
     exact h4
   · rw [if_neg hk]
     have eb : ym (.bin k x y) = 1 := if_neg hk
     rw [eb]
     have h1 := (qe6 ih1 1 (by decide)).2.2.2.2
     have h2 := (qe6 ih2 (1 + 1) (by decide)).2.2.2.1 (Int.le_refl _)
     generalize brk (decide (ym x < 1)) (tksZ (shP x)) = L at h1
     generalize brk (decide (ym y < 1 + 1)) (tksZ (shP y)) = M at h2
     refine q2k fun all r o hr hmr ho => ?_
     obtain ⟨hm,hn⟩ := q17 (k := k) (by omega)
     have h3 := h2 (all ++ x.nd all.length) r _ hr (.prodL_end hmr)
     rw [← enodes] at ho
     have h4 := h1 all (tk 2 (qad k) :: (M ++ r)) o (sign_pow k _) hn (.sumL_ok hm h3 ho)
     have e2 : (L ++ tk 2 (qad k) :: M) ++ r = L ++ tk 2 (qad k) :: (M ++ r) := by simp
     rw [e2]
     exact h4
theorem q2p {x : Ex} (h : x.ok) (all : List NodeC) {r : List Tok} (hr : Ends r) : Ps .sum all (tksZ (shP x) ++ r) (.ok (all ++ x.nd all.length) r) :=
 (q2o x h).2.2.2.2 all r _ hr.pw hr.ml (.sumL_end hr.ad)
def letQ (a : ByteArray × Ex) : List Tok := tk 0 letS :: tk 0 a.1 :: tk 2 je :: (tksZ (shP a.2) ++ [tk 2 ye])
def qb6 : List (ByteArray × Ex) → List Tok
 | [] => []
 | a :: l => letQ a ++ qb6 l
def qly (ins outs : List ByteArray) (l : List (ByteArray × Ex)) : List Tok := qe1 inS ins ++ (qb6 l ++ qe1 outS outs)
theorem q2q {a : ByteArray × Ex} (h1 : vt a.1 = true) (h2 : a.2.ok) (all : List NodeC) (r : List Tok) : Lt1 all (tk 0 a.1 :: tk 2 je :: (tksZ (shP a.2) ++ tk 2 ye :: r)) (.ok a.1 (all ++ a.2.nd all.length) r) :=
 .ok (by unfold yf tk; rw [h1]; rfl) (j9 2 je) (q2p h2 all (q16 r)) (j9 2 ye)
theorem qrt : ∀ (l : List (ByteArray × Ex)) (ls : List LetC) (all : List NodeC) (r : List Tok), jv l → hdT r 0 letS = false → Lts ls all (qb6 l ++ r) (.ok (ls ++ (laid l all.length).1) (all ++ (laid l all.length).2) r)
 | [], ls, all, r, _, hr => by
   have := Lts.fin (ls := ls) (all := all) hr
   simpa [qb6,laid] using this
 | (s, x) :: l, ls, all, r, h, hr => by
   obtain ⟨h1,h2⟩ := h _ List.mem_cons_self
   have e1 := q2q (a := (s,x)) h1 h2 all (qb6 l ++ r)
   have ih := qrt l (ls ++ [⟨s,vr (all ++ x.nd all.length)⟩]) (all ++ x.nd all.length) r (fun b hb => h b (List.mem_cons_of_mem _ hb)) hr
   have hlen : (all ++ x.nd all.length).length = all.length + x.n := by rw [List.length_append,x.nd_len]
   have e2 := Lts.more (ls := ls) (x := tk 0 letS) (j9 0 letS) e1 ih
   rw [zf,hlen] at e2
   have e3 : qb6 ((s,x) :: l) ++ r = tk 0 letS :: tk 0 s :: tk 2 je :: (tksZ (shP x) ++ tk 2 ye :: (qb6 l ++ r)) := by simp [qb6,letQ]
   rw [e3]
   simpa [laid,List.append_assoc] using e2
theorem q2r {ins outs : List ByteArray} {l : List (ByteArray × Ex)} (h1 : qat ins) (hi : 1 ≤ ins.length) (h2 : jv l) (h3 : qat outs) (ho : 1 ≤ outs.length) : Prg (qly ins outs l) (.ok ⟨ins,(laid l 0).1,outs,(laid l 0).2⟩) := by
 cases ins with
 | nil => simp at hi
 | cons s ins =>
   cases outs with
   | nil => simp at ho
   | cons t outs =>
     have a1 := qlu ins s (qb6 l ++ qe1 outS (t :: outs)) (h1 s List.mem_cons_self) fun b hb => h1 b (List.mem_cons_of_mem _ hb)
     have a2 := qrt l [] [] (qe1 outS (t :: outs)) h2 (ja (by decide))
     have a3 := qlu outs t [] (h3 t List.mem_cons_self) fun b hb => h3 b (List.mem_cons_of_mem _ hb)
     rw [List.append_nil] at a3
     exact .ok (j9 0 inS) a1 a2 (j9 0 outS) a3
structure y5 (l : List NodeC) (i : Int) (x : Ex) : Prop where
 ok : x.ok
 lie : ∃ b : Nat,At l b x ∧ i = (b : Int) + x.n - 1
theorem qgh {l : List NodeC} {b : Nat} {x : Ex} (h : At l b x) {u : List NodeC} {c : NodeC} (e : x.nd b = u ++ [c]) : l[b + u.length]? = some c := by
 refine h u.length c ?_
 rw [e,List.getElem?_append_right (Nat.le_refl _),Nat.sub_self]; rfl
theorem y5.in_ {l : List NodeC} {i : Int} {x : Ex} (h : y5 l i x) : 0 ≤ i ∧ i < l.length := by
 obtain ⟨hx,b,ha,hi⟩ := h
 have hp := x.n_pos
 have hl : (x.nd b)[x.n - 1]? = some ((x.nd b)[x.n - 1]'(by rw [x.nd_len]; omega)) := List.getElem?_eq_getElem _
 have := ha _ _ hl
 have h2 := (List.getElem?_eq_some_iff.1 this).1
 omega
theorem y5.ref {l : List NodeC} {i : Int} {t : ByteArray} (h : y5 l i (.ref t)) : l[i.toNat]? = some (refN t) := by
 obtain ⟨_,b,ha,hi⟩ := h
 have h1 := qgh ha (u := []) (c := refN t) rfl
 rw [show i.toNat = b + 0 by simp only [Ex.n] at hi; omega]; exact h1
theorem y5.num {l : List NodeC} {i : Int} {q : Rat} (h : y5 l i (.num q)) : l[i.toNat]? = some (numN q) := by
 obtain ⟨_,b,ha,hi⟩ := h
 have h1 := qgh ha (u := []) (c := numN q) rfl
 rw [show i.toNat = b + 0 by simp only [Ex.n] at hi; omega]; exact h1
theorem y5.neg {l : List NodeC} {i : Int} {x : Ex} (h : y5 l i (.neg x)) : ∃ a,l[i.toNat]? = some (negN a) ∧ y5 l a x ∧ a < i := by
 obtain ⟨hx,b,ha,hi⟩ := h
 have h1 := qgh ha (u := x.nd b) rfl
 rw [x.nd_len] at h1
 refine ⟨(b : Int) + x.n - 1,?_,⟨hx,b,At.left ha rfl,rfl⟩,by simp only [Ex.n] at hi; omega⟩
 rw [show i.toNat = b + x.n by simp only [Ex.n] at hi; omega]; exact h1
theorem y5.pow {l : List NodeC} {i : Int} {x : Ex} {e : Int} (h : y5 l i (.pow x e)) : ∃ a,l[i.toNat]? = some (powN a e) ∧ y5 l a x ∧ a < i := by
 obtain ⟨hx,b,ha,hi⟩ := h
 have h1 := qgh ha (u := x.nd b) rfl
 rw [x.nd_len] at h1
 refine ⟨(b : Int) + x.n - 1,?_,⟨hx.1,b,At.left ha rfl,rfl⟩,by simp only [Ex.n] at hi; omega⟩
 rw [show i.toNat = b + x.n by simp only [Ex.n] at hi; omega]; exact h1
theorem y5.bin {l : List NodeC} {i : Int} {x y : Ex} {k : Int} (h : y5 l i (.bin k x y)) : ∃ a c,l[i.toNat]? = some (binN k a c) ∧ y5 l a x ∧ y5 l c y ∧ a < i ∧ c < i := by
 obtain ⟨⟨_,_,hx,hy⟩,b,ha,hi⟩ := h
 have h1 := qgh ha (u := x.nd b ++ y.nd (b + x.n)) rfl
 rw [List.length_append,x.nd_len,y.nd_len] at h1
 have ha1 : At l b x := At.left ha (u := x.nd b) (v := y.nd (b + x.n) ++ [binN k ((b : Int) + x.n - 1) ((b : Int) + x.n + y.n - 1)]) (by simp only [Ex.nd,List.append_assoc])
 have ha2 := At.right (At.left ha (u := x.nd b ++ y.nd (b + x.n)) rfl) (u := x.nd b) (v := y.nd (b + x.n)) rfl
 rw [x.nd_len] at ha2
 refine ⟨(b : Int) + x.n - 1,(b : Int) + x.n + y.n - 1,?_,⟨hx,b,ha1,rfl⟩,⟨hy,b + x.n,ha2,by omega⟩,?_,?_⟩
 · rw [show i.toNat = b + (x.n + y.n) by simp only [Ex.n] at hi; omega]; exact h1
 · simp only [Ex.n] at hi; omega
 · simp only [Ex.n] at hi; omega
theorem q2s : ∀ (x : Ex) {l : List NodeC} {b : Nat},x.ok → At l b x → ∀ j,j < x.n → ∃ y,y5 l ((b + j : Nat) : Int) y ∧ y.h ≤ x.h ∧ y.n ≤ x.n := by
 intro x
 induction x with
 | ref t => intro l b hx ha j hj; simp only [Ex.n] at hj; exact ⟨.ref t,⟨hx,b,ha,by simp only [Ex.n]; omega⟩,Nat.le_refl _,Nat.le_refl _⟩
 | num q => intro l b hx ha j hj; simp only [Ex.n] at hj; exact ⟨.num q,⟨hx,b,ha,by simp only [Ex.n]; omega⟩,Nat.le_refl _,Nat.le_refl _⟩
 | neg x ih =>
   intro l b hx ha j hj
   simp only [Ex.n] at hj
   by_cases h : j < x.n
   · obtain ⟨y, h1, h2, h3⟩ := ih hx (At.left ha (u := x.nd b) rfl) j h
     exact ⟨y,h1,by simp only [Ex.h]; omega,by simp only [Ex.n]; omega⟩
   · exact ⟨.neg x,⟨hx,b,ha,by simp only [Ex.n]; omega⟩,Nat.le_refl _,Nat.le_refl _⟩
 | pow x e ih =>
   intro l b hx ha j hj
   simp only [Ex.n] at hj
   by_cases h : j < x.n
   · obtain ⟨y, h1, h2, h3⟩ := ih hx.1 (At.left ha (u := x.nd b) rfl) j h
     exact ⟨y,h1,by simp only [Ex.h]; omega,by simp only [Ex.n]; omega⟩
   · exact ⟨.pow x e,⟨hx,b,ha,by simp only [Ex.n]; omega⟩,Nat.le_refl _,Nat.le_refl _⟩
 | bin k x y ih1 ih2 =>
   intro l b hx ha j hj
   simp only [Ex.n] at hj
   have ha1 : At l b x := At.left ha (u := x.nd b) (v := y.nd (b + x.n) ++ [binN k ((b : Int) + x.n - 1) ((b : Int) + x.n + y.n - 1)]) (by simp only [Ex.nd,List.append_assoc])
   have ha2 := At.right (At.left ha (u := x.nd b ++ y.nd (b + x.n)) rfl) (u := x.nd b) (v := y.nd (b + x.n)) rfl
   rw [x.nd_len] at ha2
   by_cases h : j < x.n
   · obtain ⟨z, h1, h2, h3⟩ := ih1 hx.2.2.1 ha1 j h
     exact ⟨z,h1,by simp only [Ex.h]; omega,by simp only [Ex.n]; omega⟩
   · by_cases h4 : j < x.n + y.n
     · obtain ⟨z, h1, h2, h3⟩ := ih2 hx.2.2.2 ha2 (j - x.n) (by omega)
       rw [show b + x.n + (j - x.n) = b + j by omega] at h1
       exact ⟨z,h1,by simp only [Ex.h]; omega,by simp only [Ex.n]; omega⟩
     · exact ⟨.bin k x y,⟨hx,b,ha,by simp only [Ex.n]; omega⟩,Nat.le_refl _,Nat.le_refl _⟩
theorem qru : ∀ (l : List (ByteArray × Ex)) (b : Nat) {all : List NodeC}, jv l → (∀ j c, (laid l b).2[j]? = some c → all[b + j]? = some c) → ∀ j, j < (laid l b).2.length → ∃ a ∈ l, ∃ y, y5 all ((b + j : Nat) : Int) y ∧ y.h ≤ a.2.h ∧ y.n ≤ a.2.n
 | [],b,all,_,_,j,hj => by simp [laid] at hj
 | (s, x) :: l, b, all, h, ha, j, hj => by
   have e : (laid ((s,x) :: l) b).2 = x.nd b ++ (laid l (b + x.n)).2 := rfl
   have a1 := At.left ha e
   have a2 := At.right ha e
   rw [x.nd_len] at a2
   rw [e,List.length_append,x.nd_len] at hj
   by_cases h1 : j < x.n
   · obtain ⟨y, k1, k2, k3⟩ := q2s x (h _ List.mem_cons_self).2 a1 j h1
     exact ⟨_,List.mem_cons_self,y,k1,k2,k3⟩
   · obtain ⟨a, k0, y, k1, k2, k3⟩ := qru l (b + x.n) (fun a ha => h a (List.mem_cons_of_mem _ ha)) a2 (j - x.n) (by omega)
     rw [show b + x.n + (j - x.n) = b + j by omega] at k1
     exact ⟨a,List.mem_cons_of_mem _ k0,y,k1,k2,k3⟩
theorem qrv : ∀ (l : List (ByteArray × Ex)) (b : Nat) {all : List NodeC}, jv l → (∀ (j : Nat) (c : NodeC), (laid l b).2[j]? = some c → all[b + j]? = some c) → ∀ (j : Nat) (c : LetC), (laid l b).1[j]? = some c → ∃ x, l[j]? = some (c.name, x) ∧ y5 all c.root x
 | [],b,all,_,_,j,c,hj => by simp [laid] at hj
 | (s, x) :: l, b, all, h, ha, 0, c, hj => by
   have e : (laid ((s,x) :: l) b).2 = x.nd b ++ (laid l (b + x.n)).2 := rfl
   have a1 := At.left ha e
   have e1 : (⟨s,(b : Int) + x.n - 1⟩ : LetC) = c := Option.some.inj hj
   subst e1
   exact ⟨x,rfl,⟨(h _ List.mem_cons_self).2,b,a1,rfl⟩⟩
 | (s, x) :: l, b, all, h, ha, j + 1, c, hj => by
   have e : (laid ((s,x) :: l) b).2 = x.nd b ++ (laid l (b + x.n)).2 := rfl
   have a2 := At.right ha e
   rw [x.nd_len] at a2
   exact qrv l (b + x.n) (fun a ha => h a (List.mem_cons_of_mem _ ha)) a2 j c hj
theorem qa5.node {p : qv} {l : List (ByteArray × Ex)} (h : qa5 p l) {i : Int} (h0 : 0 ≤ i) (h1 : i < p.all.length) : ∃ y,y5 p.all i y ∧ y.h ≤ 60 := by
 have ha : ∀ j c,(laid l 0).2[j]? = some c → p.all[0 + j]? = some c := fun j c hj => by rw [h.all,Nat.zero_add]; exact hj
 obtain ⟨a,k0,y,k1,k2,k3⟩ := qru l 0 h.ok ha i.toNat (by rw [← h.all]; omega)
 rw [show ((0 + i.toNat : Nat) : Int) = i by omega] at k1
 exact ⟨y,k1,Nat.le_trans k2 (h.low a k0)⟩
theorem qa5.root {p : qv} {l : List (ByteArray × Ex)} (h : qa5 p l) {j : Nat} {c : LetC} (hj : p.lets[j]? = some c) : ∃ x,l[j]? = some (c.name,x) ∧ y5 p.all c.root x ∧ x.h ≤ 60 := by
 have ha : ∀ j c,(laid l 0).2[j]? = some c → p.all[0 + j]? = some c := fun j c hj => by rw [h.all,Nat.zero_add]; exact hj
 rw [h.lets] at hj
 obtain ⟨x,k1,k2⟩ := qrv l 0 h.ok ha j c hj
 exact ⟨x,k1,k2,h.low (c.name,x) (List.mem_of_getElem? k1)⟩
theorem y5.few {l : List NodeC} {i : Int} {x : Ex} (h : y5 l i x) : x.n ≤ l.length := by
 have h1 := h.in_
 obtain ⟨_,b,_,hi⟩ := h
 omega
end Go.Proofs.YtfcmhcaggdakbaaGreatDoor
namespace Go.Tw
open Go Go.RowKit
def mEs : List (ByteArray × Value) → Nat → List MapEntry
 | [],_ => []
 | (s,v) :: l,i => ⟨.string s,v,i⟩ :: mEs l (i + 1)
def mapO (l : List (ByteArray × Value)) : Obj := .map (mEs l 0).toArray l.length
def y6 (k : ByteArray) : List (ByteArray × Value) → Nat → Option (Nat × Value)
 | [],_ => none
 | (s,v) :: l,j => if k = s then some (j,v) else y6 k l (j + 1)
def mPut (k : ByteArray) (v : Value) : List (ByteArray × Value) → List (ByteArray × Value)
 | [] => [(k,v)]
 | (s,u) :: l => if k = s then (k,v) :: l else (s,u) :: mPut k v l
theorem qrw : ∀ (l m : List (ByteArray × Value)) (i : Nat), mEs (l ++ m) i = mEs l i ++ mEs m (i + l.length)
 | [],m,i => rfl
 | (s, v) :: l, m, i => by
   rw [List.cons_append,mEs,mEs,qrw l m (i + 1),List.length_cons,List.cons_append]
   congr 3
   omega
theorem qlz (a b : ByteArray) : (a == b) = decide (a = b) := by
 show (a.data == b.data) = _
 by_cases h : a = b
 · subst h; simp
 · rw [decide_eq_false h]
   have : a.data ≠ b.data := fun e => h (ByteArray.ext e)
   simpa using this
theorem qrx (k : ByteArray) : ∀ (l : List (ByteArray × Value)) (i j : Nat), Instr.findNow .string (.string k) (mEs l i) j = some (y6 k l j)
 | [],_,_ => rfl
 | (s, v) :: l, i, j => by
   rw [mEs,y6]
   unfold Instr.findNow
   by_cases h : k = s
   · subst h
     rw [if_pos rfl]
     have e : (k == k) = true := by rw [qlz]; exact decide_eq_true rfl
     simp only [Instr.sameNow,e]
   · rw [if_neg h]
     have e : (k == s) = false := by rw [qlz]; exact decide_eq_false h
     simp only [Instr.sameNow,e]
     exact qrx k l (i + 1) (j + 1)
theorem ql0 {k : ByteArray} {v : Value} : ∀ {l : List (ByteArray × Value)} {j : Nat}, y6 k l j = none → mPut k v l = l ++ [(k, v)]
 | [],_,_ => rfl
 | (s, u) :: l, j, h => by
   rw [y6] at h
   split at h
   · cases h
   · rename_i hn
     rw [mPut,if_neg hn,ql0 h]
     rfl
theorem qry {k : ByteArray} {v x : Value} {i0 : Nat} : ∀ {l : List (ByteArray × Value)} {j i : Nat}, y6 k l j = some (i, x) → j ≤ i ∧ i - j < l.length ∧ (mEs l i0)[i - j]? = some ⟨.string k, x, i0 + (i - j)⟩ ∧ (mEs l i0).modify (i - j) (fun e => { e with key := .string k, val := v }) = mEs (mPut k v l) i0 ∧ (mPut k v l).length = l.length
 | [],_,_,h => by cases h
 | (s, u) :: l, j, i, h => by
   rw [y6] at h
   split at h
   · rename_i hs
     cases h
     subst hs
     rw [Nat.sub_self,mPut,if_pos rfl]
     exact ⟨Nat.le_refl _,by simp,rfl,rfl,rfl⟩
   · rename_i hn
     obtain ⟨h1,h2,h3,h4,h5⟩ := qry (v := v) (i0 := i0 + 1) h
     have e : i - j = i - (j + 1) + 1 := by omega
     rw [mPut,if_neg hn,e]
     refine ⟨by omega,by rw [List.length_cons]; omega,?_,?_,by rw [List.length_cons,List.length_cons,h5]⟩
     · rw [mEs, List.getElem?_cons_succ, h3]
       congr 2
       omega
     · rw [mEs,mEs,List.modify_succ_cons,h4]
section
variable {P : Program} {Q : Exit → Act → World → Prop} {n : Nat} {D : List Deferred} {E : Env} {S S' : World → Prop} {ops : Array Oper} {rest : List Oper} {d : Nat} {op : Op} {ty : TypeId} {pos : String} {aft : Array Edge} {g : Option (Nat × Bool)} {v : Value} {w0 : World} {X : List Nat} {I : Hp} {B : List Item}
theorem ql1 {kt : TypeId} (hk : P.underlying kt = some .string) (w : World) (k : ByteArray) (l : List (ByteArray × Value)) : (Instr.findKey kt (.string k) (mEs l 0)).run P w = .ok (y6 k l 0) w := by
 simp [Instr.findKey,run_underlying hk,qrx,Result.andThen]
theorem ql2 {kt : TypeId} (hk : P.underlying kt = some .string) (w : World) (b : Bool) (k : ByteArray) : (Instr.checkKey b 10000 kt (.string k)).run P w = .ok () w := by
 unfold Instr.checkKey
 simp [run_underlying hk,Result.andThen]
theorem qrz {t : TypeId} (hg : qi ops E g) (hd : Nat.blt d n = true)
   (k : ∀ b,TL false P ops Q rest n D ((d,.map (some b)) :: E) (St w0 X I (.box b (mapO []) :: B))) : TL false P ops Q (⟨some d,.makeMap t none,ty,pos,aft,g⟩ :: rest) n D E (St w0 X I B) :=
 qba (ι := Nat) (V := fun b => .map (some b)) (SX := fun b => St w0 X I (.box b (mapO []) :: B)) (F := fun _ => True) hg hd
   (fun a w ha hw d pos aft g => ⟨w.alloc (mapO []), w.heap.size, by
     simp [execOp,Instr.makeMap,newObj,Sem.run,Result.andThen]; rfl,
     hw.new (But.alloc w _) (heap_alloc_new w _) (fun b hb => by cases hb; exact Nat.le_refl _),trivial⟩) (fun b _ => k b)
theorem q2t {qm : Bool} {t kt et : TypeId} {m x : Operand} {b : Nat} {key : ByteArray} {l : List (ByteArray × Value)} {z : Value} (hg : qi ops E g) (hd : Nat.blt d n = true) (hu : P.underlying t = some (.map kt et)) (hk : P.underlying kt = some .string) (hz : ∀ w, (zeroValue et).run P w = .ok z w) (hm : ev E m = some (.map (some b))) (hx : ev E x = some (.string key)) (hB : Item.box b (mapO l) ∈ B)
   (k : TL qm P ops Q rest n D ((d,.tuple #[((y6 key l 0).map Prod.snd).getD z,.bool (y6 key l 0).isSome]) :: E) (St w0 X I B)) : TL qm P ops Q (⟨some d,.lookup t m x true,ty,pos,aft,g⟩ :: rest) n D E (St w0 X I B) :=
 o_rd hg hd (v := .tuple #[((y6 key l 0).map Prod.snd).getD z, .bool (y6 key l 0).isSome]) (fun a w ha hw d pos aft g => ⟨w, by
   have hbox : w.heap[b]? = some (.map (mEs l 0).toArray l.length) := hw.own _ hB
   have hf := ql1 hk w key l
   have hc := ql2 hk w (mEs l 0).isEmpty key
   cases hfd : y6 key l 0 with
   | none =>
     rw [hfd] at hf
     simp [execOp,ha.ev hm,ha.ev hx,Instr.lookup,run_underlying hu,MapKept.run_getObj_map hbox,hc,hf,hz,Result.andThen]
   | some y =>
     obtain ⟨i,u⟩ := y
     rw [hfd] at hf
     simp [execOp,ha.ev hm,ha.ev hx,Instr.lookup,run_underlying hu,MapKept.run_getObj_map hbox,hc,hf,hz,Result.andThen],rfl⟩) k
theorem q2u {qm : Bool} {t kt et : TypeId} {m x : Operand} {b : Nat} {key : ByteArray} {l : List (ByteArray × Value)} {z : Value} (hg : qi ops E g) (hd : Nat.blt d n = true) (hu : P.underlying t = some (.map kt et)) (hk : P.underlying kt = some .string) (hz : ∀ w, (zeroValue et).run P w = .ok z w) (hm : ev E m = some (.map (some b))) (hx : ev E x = some (.string key)) (hB : Item.box b (mapO l) ∈ B)
   (k : TL qm P ops Q rest n D ((d,((y6 key l 0).map Prod.snd).getD z) :: E) (St w0 X I B)) : TL qm P ops Q (⟨some d,.lookup t m x false,ty,pos,aft,g⟩ :: rest) n D E (St w0 X I B) :=
 o_rd hg hd (v := ((y6 key l 0).map Prod.snd).getD z) (fun a w ha hw d pos aft g => ⟨w, by
   have hbox : w.heap[b]? = some (.map (mEs l 0).toArray l.length) := hw.own _ hB
   have hf := ql1 hk w key l
   have hc := ql2 hk w (mEs l 0).isEmpty key
   cases hfd : y6 key l 0 with
   | none =>
     rw [hfd] at hf
     simp [execOp,ha.ev hm,ha.ev hx,Instr.lookup,run_underlying hu,MapKept.run_getObj_map hbox,hc,hf,hz,Result.andThen]
   | some y =>
     obtain ⟨i,u⟩ := y
     rw [hfd] at hf
     simp [execOp,ha.ev hm,ha.ev hx,Instr.lookup,run_underlying hu,MapKept.run_getObj_map hbox,hc,hf,hz,Result.andThen],rfl⟩) k
theorem map_set {w : World} {b : Nat} {o o' : Obj} (hb : w.heap[b]? = some o) : But (some b) w { w with heap := w.heap.setIfInBounds b o' } ∧ (w.heap.setIfInBounds b o')[b]? = some o' := by
 refine ⟨⟨rfl,rfl,rfl,by simp,fun k hk hne => ?_⟩,?_⟩
 · have : b ≠ k := fun e => hne (by rw [e])
   simp [Array.getElem?_setIfInBounds,this]
 · have hlt := (Array.getElem?_eq_some_iff.1 hb).1
   simp [hlt]
theorem q2v {t kt et : TypeId} {w : World} {b : Nat} {key : ByteArray} {val : Value} {l : List (ByteArray × Value)} (hu : P.underlying t = some (.map kt et)) (hk : P.underlying kt = some .string) (hbox : w.heap[b]? = some (mapO l)) :
   (Instr.mapUpdate t (.map (some b)) (.string key) val).run P w = .ok () { w with heap := w.heap.setIfInBounds b (mapO (mPut key val l)) } := by
 have hbox' : w.heap[b]? = some (.map (mEs l 0).toArray l.length) := hbox
 have hf := ql1 hk w key l
 have hc := ql2 hk w false key
 cases hfd : y6 key l 0 with
 | none =>
   rw [hfd] at hf
   have e : mapO (mPut key val l) = .map ((mEs l 0).toArray.push ⟨.string key,val,l.length⟩) (l.length + 1) := by
     rw [ql0 hfd]
     unfold mapO
     rw [qrw,List.length_append]
     simp [mEs]
   rw [e]
   simp [Instr.mapUpdate,run_underlying hu,MapKept.run_getObj_map hbox',hc,hf,setObj,Sem.run,Result.andThen,hbox']
 | some y =>
   obtain ⟨i,u⟩ := y
   obtain ⟨_,h2,h3,h4,h5⟩ := qry (v := val) (i0 := 0) hfd
   rw [Nat.sub_zero] at h2 h3 h4
   rw [hfd] at hf
   have e : mapO (mPut key val l) = .map ((mEs l 0).toArray.modify i fun e => { e with key := .string key,val := val }) l.length := by
     unfold mapO
     rw [h5,← h4]
     congr 1
     apply Array.ext'
     simp
   rw [e]
   have e2 : (key == key) = true := by rw [qlz]; exact decide_eq_true rfl
   simp [Instr.mapUpdate,run_underlying hu,MapKept.run_getObj_map hbox',hc,hf,setObj,Sem.run,Result.andThen,hbox',h3,Instr.keyThatStays,Instr.sameBits,e2]
theorem qr0 {t kt et : TypeId} {m x y : Operand} {b : Nat} {key : ByteArray} {l : List (ByteArray × Value)} {B' : List Item} (hg : qi ops E g) (hu : P.underlying t = some (.map kt et)) (hk : P.underlying kt = some .string) (hm : ev E m = some (.map (some b))) (hx : ev E x = some (.string key)) (hy : ev E y = some v) (hB : Put B (.box b (mapO l)) B' (.box b (mapO (mPut key v l))))
   (k : TL false P ops Q rest n D E (St w0 X I B')) : TL false P ops Q (⟨none,.mapUpdate t m x y,ty,pos,aft,g⟩ :: rest) n D E (St w0 X I B) :=
 qgu hg (S' := St w0 X I B') (fun a w ha hS d pos aft g => by
   have hbox : w.heap[b]? = some (mapO l) := hS.own _ hB.mem
   obtain ⟨h1,h2⟩ := map_set (o' := mapO (mPut key v l)) hbox
   exact ⟨_,by simp only [execOp,ha.ev hm,ha.ev hx,ha.ev hy,q2v hu hk hbox,Sem.run_bind,Sem.run_pure,Result.andThen_ok],hS.turn hB h1 h2 (fun _ h => .inl h)⟩) k
end
end Go.Tw
namespace Go.Tw
open Go Go.RowKit
structure PL where
 l : Bool
 i : Int
abbrev KN := List (ByteArray × PL)
def plV (p : PL) : Value := .agg #[.bool p.l,.int .i64 p.i]
def knO (K : KN) : Obj := mapO (K.map fun a => (a.1,plV a.2))
def getK (s : ByteArray) : KN → Option PL
 | [] => none
 | (t,p) :: K => if s = t then some p else getK s K
theorem ql3 (s : ByteArray) : ∀ (K : KN) (j : Nat), (y6 s (K.map fun a => (a.1, plV a.2)) j).map Prod.snd = (getK s K).map plV
 | [],_ => rfl
 | (t, p) :: K, j => by
   rw [List.map_cons,y6,getK]
   split
   · rfl
   · exact ql3 s K (j + 1)
theorem qr1 (s : ByteArray) (K : KN) : (y6 s (K.map fun a => (a.1,plV a.2)) 0).isSome = (getK s K).isSome := by
 have h := congrArg Option.isSome (ql3 s K 0)
 rw [Option.isSome_map,Option.isSome_map] at h
 exact h
theorem q2w (s : ByteArray) (K : KN) : ((y6 s (K.map fun a => (a.1,plV a.2)) 0).map Prod.snd).getD (.agg #[.bool false,.int .i64 0]) = .agg #[.bool ((getK s K).getD ⟨false,0⟩).l,.int .i64 ((getK s K).getD ⟨false,0⟩).i] := by
 rw [ql3]
 cases getK s K <;> rfl
theorem q2x {s : ByteArray} {K : KN} {p : PL} (h : (getK s K).isSome = false) : mapO (mPut s (plV p) (K.map fun a => (a.1,plV a.2))) = knO (K ++ [(s,p)]) := by
 have hn : y6 s (K.map fun a => (a.1,plV a.2)) 0 = none := by
   have := qr1 s K
   rw [h] at this
   exact Option.not_isSome_iff_eq_none.1 (by rw [this]; decide)
 rw [ql0 hn]
 unfold knO
 rw [List.map_append]
 rfl
def getN (s : ByteArray) : List (ByteArray × Nat) → Nat
 | [] => 0
 | (t,n) :: U => if s = t then n else getN s U
def incN (s : ByteArray) : List (ByteArray × Nat) → List (ByteArray × Nat)
 | [] => [(s,1)]
 | (t,n) :: U => if s = t then (s,n + 1) :: U else (t,n) :: incN s U
def usU (L : List ByteArray) : List (ByteArray × Nat) := L.foldl (fun U s => incN s U) []
def usO (L : List ByteArray) : Obj := mapO ((usU L).map fun a => (a.1,.int .i64 (a.2 : Nat)))
theorem qr2 (L : List ByteArray) (s : ByteArray) : usU (L ++ [s]) = incN s (usU L) := by unfold usU; rw [List.foldl_append]; rfl
theorem qr3 (x s : ByteArray) : ∀ (U : List (ByteArray × Nat)), getN x (incN s U) = getN x U + if x = s then 1 else 0
 | [] => by
   show (if x = s then 1 else 0) = 0 + _
   rw [Nat.zero_add]
 | (t, n) :: U => by
   have ih := qr3 x s U
   rw [incN]
   split
   · rename_i h
     subst h
     rw [getN,getN]
     by_cases hx : x = s
     · rw [if_pos hx,if_pos hx,if_pos hx]
     · rw [if_neg hx,if_neg hx,if_neg hx]; rfl
   · rename_i h
     rw [getN,getN]
     by_cases hx : x = t
     · rw [if_pos hx,if_pos hx,if_neg (fun e => h (by rw [← e,hx]))]; rfl
     · rw [if_neg hx,if_neg hx,ih]
def cnt (s : ByteArray) : List ByteArray → Nat
 | [] => 0
 | x :: L => (if s = x then 1 else 0) + cnt s L
theorem qr4 (s x : ByteArray) : ∀ (L : List ByteArray), cnt s (L ++ [x]) = cnt s L + if s = x then 1 else 0
 | [] => by simp [cnt]
 | y :: L => by rw [List.cons_append,cnt,cnt,qr4 s x L,Nat.add_assoc]
theorem qr5 (s : ByteArray) : ∀ (L : List ByteArray), cnt s L ≤ L.length
 | [] => Nat.le_refl _
 | y :: L => by
   have := qr5 s L
   rw [cnt,List.length_cons]
   split <;> omega
theorem qr6 (x : ByteArray) (L : List ByteArray) : getN x (usU L) = cnt x L := by
 have key : ∀ (n : Nat) (L : List ByteArray),L.length = n → getN x (usU L) = cnt x L := by
   intro n
   induction n with
   | zero =>
     intro L h
     rw [List.length_eq_zero_iff.1 h]; rfl
   | succ n ih =>
     intro L h
     have hne : L ≠ [] := fun e => by rw [e] at h; cases h
     rw [← List.dropLast_concat_getLast hne,qr2,qr3,ih L.dropLast (by rw [List.length_dropLast,h]; rfl),qr4]
 exact key L.length L rfl
theorem qr7 (s : ByteArray) : ∀ (U : List (ByteArray × Nat)) (j : Nat), ((y6 s (U.map fun a => (a.1, Value.int .i64 (a.2 : Nat))) j).map Prod.snd).getD (.int .i64 0) = .int .i64 (getN s U : Nat)
 | [],_ => rfl
 | (t, p) :: K, j => by
   rw [List.map_cons,y6,getN]
   split
   · rfl
   · exact qr7 s K (j + 1)
theorem qr8 (s : ByteArray) : ∀ (U : List (ByteArray × Nat)), mPut s (.int .i64 ((getN s U : Nat) + 1)) (U.map fun a => (a.1, Value.int .i64 (a.2 : Nat))) = (incN s U).map fun a => (a.1, Value.int .i64 (a.2 : Nat))
 | [] => rfl
 | (t, n) :: U => by
   have ih := qr8 s U
   rw [List.map_cons,mPut,incN,getN]
   by_cases h : s = t
   · rw [if_pos h,if_pos h,if_pos h]; rfl
   · rw [if_neg h,if_neg h,if_neg h,ih]; rfl
section
variable {P : Program} {Q : Exit → Act → World → Prop} {n : Nat} {D : List Deferred} {E : Env} {S S' : World → Prop} {ops : Array Oper} {rest : List Oper} {d : Nat} {op : Op} {ty : TypeId} {pos : String} {aft : Array Edge} {g : Option (Nat × Bool)} {v : Value} {w0 : World} {X : List Nat} {I : Hp} {B : List Item}
theorem ql4 {qm : Bool} {t kt et : TypeId} {m x : Operand} {b : Nat} {key : ByteArray} {K : KN} (hg : qi ops E g) (hd : Nat.blt d n = true) (hu : P.underlying t = some (.map kt et)) (hk : P.underlying kt = some .string) (hz : ∀ w, (zeroValue et).run P w = .ok (.agg #[.bool false, .int .i64 0]) w) (hm : ev E m = some (.map (some b))) (hx : ev E x = some (.string key)) (hB : Item.box b (knO K) ∈ B)
   (k : TL qm P ops Q rest n D ((d,.tuple #[.agg #[.bool ((getK key K).getD ⟨false,0⟩).l,.int .i64 ((getK key K).getD ⟨false,0⟩).i],.bool (getK key K).isSome]) :: E) (St w0 X I B)) : TL qm P ops Q (⟨some d,.lookup t m x true,ty,pos,aft,g⟩ :: rest) n D E (St w0 X I B) :=
 q2t hg hd hu hk hz hm hx hB (by rw [q2w,qr1]; exact k)
theorem q2y {t kt et : TypeId} {m x y : Operand} {b : Nat} {key : ByteArray} {K : KN} {p : PL} {B' : List Item} (hn : (getK key K).isSome = false) (hg : qi ops E g) (hu : P.underlying t = some (.map kt et)) (hk : P.underlying kt = some .string) (hm : ev E m = some (.map (some b))) (hx : ev E x = some (.string key)) (hy : ev E y = some (plV p)) (hB : Put B (.box b (knO K)) B' (.box b (knO (K ++ [(key, p)]))))
   (k : TL false P ops Q rest n D E (St w0 X I B')) : TL false P ops Q (⟨none,.mapUpdate t m x y,ty,pos,aft,g⟩ :: rest) n D E (St w0 X I B) :=
 qr0 (l := K.map fun a => (a.1,plV a.2)) hg hu hk hm hx hy (by rw [q2x hn]; exact hB) k
theorem q2z {qm : Bool} {t kt et : TypeId} {m x : Operand} {b : Nat} {key : ByteArray} {L : List ByteArray} (hg : qi ops E g) (hd : Nat.blt d n = true) (hu : P.underlying t = some (.map kt et)) (hk : P.underlying kt = some .string) (hz : ∀ w, (zeroValue et).run P w = .ok (.int .i64 0) w) (hm : ev E m = some (.map (some b))) (hx : ev E x = some (.string key)) (hB : Item.box b (usO L) ∈ B)
   (k : TL qm P ops Q rest n D ((d,.int .i64 (cnt key L : Nat)) :: E) (St w0 X I B)) : TL qm P ops Q (⟨some d,.lookup t m x false,ty,pos,aft,g⟩ :: rest) n D E (St w0 X I B) :=
 q2u hg hd hu hk hz hm hx hB (by rw [qr7,qr6]; exact k)
theorem q20 {t kt et : TypeId} {m x y : Operand} {b : Nat} {key : ByteArray} {L : List ByteArray} {B' : List Item} (hg : qi ops E g) (hu : P.underlying t = some (.map kt et)) (hk : P.underlying kt = some .string) (hm : ev E m = some (.map (some b))) (hx : ev E x = some (.string key)) (hy : ev E y = some (.int .i64 ((cnt key L : Nat) + 1))) (hB : Put B (.box b (usO L)) B' (.box b (usO (L ++ [key]))))
   (k : TL false P ops Q rest n D E (St w0 X I B')) : TL false P ops Q (⟨none,.mapUpdate t m x y,ty,pos,aft,g⟩ :: rest) n D E (St w0 X I B) :=
 qr0 (l := (usU L).map fun a => (a.1, Value.int .i64 (a.2 : Nat))) hg hu hk hm hx hy (by
   have e : mapO (mPut key (.int .i64 ((cnt key L : Nat) + 1)) ((usU L).map fun a => (a.1,Value.int .i64 (a.2 : Nat)))) = usO (L ++ [key]) := by
     unfold usO
     rw [qr2,← qr8,qr6]
   rw [e]
   exact hB) k
end
end Go.Tw
namespace Go.Tw
open Go
structure RV where
 q : Rat
 vn : Value
 vd : Value
def RV.cells (r : RV) : List Value := [.bool (decide (r.q.num < 0)),r.vn,r.vd]
def RV.ok (I : Hp) (r : RV) : Prop := Ws I r.vn (natW r.q.num.natAbs) ∧ Ws I r.vd (natW r.q.den)
theorem RV.ok.le {I I' : Hp} {r : RV} (h : r.ok I) (hl : I.Le I') : r.ok I' := ⟨h.1.le hl,h.2.le hl⟩
def rcs (rs : List RV) : List (List Value) := rs.map RV.cells
theorem ql5 (rs : List RV) : (rcs rs).length = rs.length := by simp [rcs]
theorem q21 (rs : List RV) : ∀ c ∈ rcs rs,c.length = 3 := by
 intro c hc
 obtain ⟨r,_,rfl⟩ := List.mem_map.1 hc
 rfl
def zth (l : List Rat) (i : Int) : Rat := l.getD i.toNat 0
def opR (o : OpC) (l : List Rat) : Option Rat :=
 if o.code = 2 then some (zth l o.a + zth l o.b)
 else if o.code = 3 then some (zth l o.a - zth l o.b)
 else if o.code = 4 then some (zth l o.a * zth l o.b)
 else if o.code = 5 then (if zth l o.b = 0 then none else some (zth l o.a / zth l o.b))
 else if o.code = 6 then some (-zth l o.a)
 else if o.code = 7 then (if o.e < 0 ∧ zth l o.a = 0 then none else some (zth l o.a ^ o.e))
 else some (lowQ o.neg (val o.n) (val o.d))
structure OpOK (o : OpC) (l : List Rat) : Prop where
 place : 2 ≤ o.code → o.code ≤ 7 → 0 ≤ o.a ∧ o.a < l.length ∧ 0 ≤ o.b ∧ o.b < l.length
 few : ∀ q ∈ l,Few 50000 q
 pow : o.code = 7 → ∃ c,Few c (zth l o.a) ∧ c ≤ 4096 ∧ c * o.e.natAbs ≤ 4096 ∧ -64 ≤ o.e ∧ o.e ≤ 64
 lits : o.n.length ≤ 100000 ∧ o.d.length ≤ 100000
end Go.Tw
namespace Go.Proofs.YtfcmhcaggdakbaaGreatDoor
open Go Go.Tw
end Go.Proofs.YtfcmhcaggdakbaaGreatDoor
namespace Go.Tw
open Go
structure NV where
 neg : Bool
 n : List Nat
 d : List Nat
 vn : Value
 vd : Value
def NV.cells (x : NV) : List Value := [.bool x.neg,x.vn,x.vd]
def NV.ok (I : Hp) (x : NV) : Prop := Ws I x.vn x.n ∧ Ws I x.vd x.d
def NV.q (x : NV) : Rat := lowQ x.neg (val x.n) (val x.d)
theorem NV.ok.le {I I' : Hp} {r : NV} (h : r.ok I) (hl : I.Le I') : r.ok I' := ⟨h.1.le hl,h.2.le hl⟩
structure PtV (I : Hp) (v : Value) (xs : List NV) : Prop where
 s : Slc I 3 v (xs.map NV.cells)
 ok : ∀ x ∈ xs,x.ok I
theorem PtV.le {I I' : Hp} {v : Value} {xs : List NV} (h : PtV I v xs) (hl : I.Le I') : PtV I' v xs := ⟨h.s.le hl,fun o ho => (h.ok o ho).le hl⟩
theorem NV.at_ {I : Hp} {v : Value} {xs : List NV} (h : PtV I v xs) {i : Nat} {x : NV} (hx : xs[i]? = some x) : ∀ k y, ([.bool x.neg, x.vn, x.vd] : List Value)[k]? = some y → I.cell? ⟨slcB v, slcO v + i * 3 + k, none⟩ = some y :=
 h.s.cells i _ (by rw [List.getElem?_map,hx]; rfl)
structure RsV (I : Hp) (v : Value) (l : List Rat) : Prop where
 out : ∃ rs : List RV,Slc I 3 v (rcs rs) ∧ (∀ r ∈ rs,r.ok I) ∧ rs.map RV.q = l
theorem RsV.le {I I' : Hp} {v : Value} {l : List Rat} (h : RsV I v l) (hl : I.Le I') : RsV I' v l := let ⟨rs,h1,h2,h3⟩ := h.out; ⟨rs,h1.le hl,fun r hr => (h2 r hr).le hl,h3⟩
def qr9 : List OpC → List Rat → Prop
 | [],_ => True
 | o :: r,l => OpOK o l ∧ ∀ q,opR o l = some q → qr9 r (l ++ [q])
end Go.Tw
namespace Go.Proofs.YtfcmhcaggdakbaaGreatDoor
open Go Go.Tw
theorem qsa : ∀ {ops : List OpC} {l r : List Nat}, wgts ops l = some r → r.length = l.length + ops.length
 | [],l,r,h => by cases h; rfl
 | o :: ops, l, r, h => by
   unfold wgts at h
   split at h
   · split at h
     · have := qsa h
       simp only [List.length_append,List.length_cons,List.length_nil] at this ⊢
       omega
     · cases h
   · cases h
theorem q22 {t : jw} {l : List Nat} (h : v7 t = some l) : 1 ≤ t.ins ∧ t.ins ≤ 40 ∧ 1 ≤ t.outs.length ∧ t.outs.length ≤ 40 ∧ t.ops.length ≤ 400 ∧ wgts t.ops (List.replicate t.ins.toNat 1) = some l ∧ ∀ z ∈ t.outs,0 ≤ z ∧ z < l.length := by
 unfold v7 at h
 split at h
 · cases h
 · rename_i hg
   split at h
   · cases h
   · rename_i l' hw
     split at h
     · rename_i hall
       cases h
       refine ⟨by omega,by omega,by omega,by omega,by omega,hw,fun z hz => ?_⟩
       have := List.all_eq_true.1 hall z hz
       simpa using this
     · cases h
end Go.Proofs.YtfcmhcaggdakbaaGreatDoor
namespace Go.Tw
open Go Go.RowKit
theorem qgi {z : Int} {x : Nat} (O : List Nat) (h : z = x) : wl O ++ [.int .u32 z] = wl (O ++ [x]) := by subst h; simp [wl]
theorem take_more {A : List Nat} {i : Nat} (h : i < A.length) : A.take (i + 1) = A.take i ++ [dg A i] := by
 rw [List.take_add_one,qi8 h]; rfl
theorem q23 {A B : List Nat} (hl : A.length = B.length) (h : ∀ j,j < A.length → dg A j = dg B j) : A = B := by
 refine List.ext_getElem hl fun i h1 h2 => ?_
 have := h i h1
 rwa [qd3 h1,qd3 h2] at this
theorem qsb {A B : List Nat} (hA : Wds A) (hB : Wds B) {i : Nat} (h : dg A i < dg B i) (he : ∀ t,i < t → dg A t = dg B t) : val A < val B := by
 have key : ∀ k,pre A (i + 1 + k) < pre B (i + 1 + k) := by
   intro k
   induction k with
   | zero =>
     have h1 := qbh hA i
     show pre A i + dg A i * 4294967296 ^ i < pre B i + dg B i * 4294967296 ^ i
     have h2 : (dg A i + 1) * 4294967296 ^ i ≤ dg B i * 4294967296 ^ i := Nat.mul_le_mul_right _ h
     rw [Nat.add_mul,Nat.one_mul] at h2
     omega
   | succ k ih =>
     show pre A (i + 1 + k) + dg A (i + 1 + k) * 4294967296 ^ (i + 1 + k) < pre B (i + 1 + k) + dg B (i + 1 + k) * 4294967296 ^ (i + 1 + k)
     rw [he (i + 1 + k) (by omega)]
     omega
 have h1 := key (A.length + B.length)
 rwa [qai (by omega),qai (by omega)] at h1
theorem q24 {A B : List Nat} (he : ∀ t,dg A t = dg B t) : val A = val B := by
 have h1 : pre A (A.length + B.length) = pre B (A.length + B.length) := qg3 fun j _ => he j
 rwa [qai (by omega),qai (by omega)] at h1
theorem ql6 (O : List Nat) (x : Nat) : val (O ++ [x]) = val O + 4294967296 ^ O.length * x := by
 rw [qjd,zw,qd4,Nat.mul_zero,Nat.add_zero]
theorem Wds.more {O : List Nat} (h : Wds O) {x : Nat} (hx : x < 4294967296) : Wds (O ++ [x]) := h.app (zc hx zj)
section
variable {P : Program} {Q : Exit → Act → World → Prop} {n : Nat} {D : List Deferred} {E : Env} {ops : Array Oper} {w0 : World} {I : Hp} {B B' : List Item}
theorem qsc {w : World} {e : TypeId} {u v : Value} {O : List Nat} {I I1 : Hp} {B : List Item} {R : Value → Hp → List Item → Prop} (he : Ext w.heap.size I I1) (hw : Wds O) (hm : O.length ≤ maxLen) (h : ∀ I', I1.Le I' → Ws I' u O → R v I' []) :
   ∀ w',St w [] I1 (.row u e 1 O.length (wl O) :: B) w' → Post w [] I R v w' := by
 rw [← qc8]
 exact qji he (jd O) (qfo O) hm fun I' hl hs => h I' hl ⟨hs,hw⟩
theorem qsd {c : Code} {e : TypeId} {u : Value} (O : List Nat) (ht : Take (.row u e 1 O.length (wl O)) B B') (hw : Wds O) (hm : O.length ≤ maxLen)
   (k : ∀ I',Ext w0.heap.size I I' → Ws I' u O → TC P c Q n D E (St w0 [] I' B')) : TC P c Q n D E (St w0 [] I B) :=
 qbj (xss := wcs O) (by rw [qc8]; exact ht) (jd O) (qfo O) hm fun I' hx hs => k I' hx ⟨hs,hw⟩
end
end Go.Tw
namespace Go.Proofs.YtfcmhcaggdakbaaGreatDoor
open Go Go.Tw
theorem q25 (va : Value) (A : List Nat) {I : Hp} (ha : Ws I va A) (hs : A.length ≤ 35184372088600) : Fun prog 147 [va] I [] (fun v _ _ => v = .int .i64 (lowL A : Nat)) := by
 intro w hw
 refine qn _ func147 rfl ntmps147 rfl ?_ hw;refine sR ?_;refine oV ?_;refine nS ?_;refine oV ?_;refine nU ?_;refine oV ?_;refine oN (tC (cB ?_));refine qt (ι := Nat) [0] (.cons rfl .nil) (fun i => A.length - i) (fun i E0 => (3,.int .i64 (low A i : Nat)) :: (4,.int .i64 (i : Nat)) :: E0) (fun i => St w [] I []) (fun i => i ≤ A.length) (0) (sC rfl (sC rfl (sC rfl sN))) (fun _ h => h) (Nat.zero_le _) ?_;rintro i hi
 try dsimp only
 refine cS (sR ?_);iterate 2 refine oV ?_
 refine ve trivial rfl underlying33 rfl (ha) ?_;refine oV ?_;refine nT ?_;refine cC rfl (fun h1 => ?_) (fun h1 => ?_)
 ·
  have f1 := h1;try simp only [bl] at f1
  refine cK (tC (cS (cB (sR ?_))));iterate 2 refine oV ?_
  refine yu trivial rfl underlying33 sizeOf134 rfl (ha) rfl (by omega) ?_;refine q7 trivial rfl isAgg134 rfl (ha.cellI (k := i) rfl (by omega)) ?_;refine oV ?_;refine nT ?_;refine cC rfl (fun h2 => ?_) (fun h2 => ?_)
  ·
   have f2 := h2;try simp only [bl] at f2
   have hlow : low A (i + 1) = i + 1 := by show (if dg A i = 0 then low A i else i + 1) = i + 1; rw [if_neg (by omega)]
   refine cR ?_;refine oV ?_
   (refine qh trivial rfl rfl rfl ?_ ?_; (omega))
   refine oV ?_;refine oN (qg (tC (cR ?_)));refine oV ?_
   (refine qh trivial rfl rfl rfl ?_ ?_; (omega))
   refine oV ?_;refine oN ?_;exact ql (i + 1) (by rw [hlow]; exact (sC rfl (sC rfl (sC rfl sN)))) (fun _ h => h) (by show A.length - (i + 1) < A.length - i; omega) (by show i + 1 ≤ _; omega)
  have f2 := h2;try simp only [bl] at f2
  have hlow : low A (i + 1) = low A i := by show (if dg A i = 0 then low A i else i + 1) = low A i; rw [if_pos (by omega)]
  refine cK (qg (tC (cR ?_)));refine oV ?_
  (refine qh trivial rfl rfl rfl ?_ ?_; (omega))
  refine oV ?_;refine oN ?_;exact ql (i + 1) (by rw [hlow]; exact (sC rfl (sC rfl (sC rfl sN)))) (fun _ h => h) (by show A.length - (i + 1) < A.length - i; omega) (by show i + 1 ≤ _; omega)
 have f1 := h1;try simp only [bl] at f1
 refine qp (qc (qc (qo rfl (tC (sR ?_)))));iterate 2 refine oV ?_
 refine nE ?_;refine ret1 rfl rfl ?_
 have hie : i = A.length := by omega
 subst hie; exact qe rfl
theorem qse (va vb : Value) (A B : List Nat) {I : Hp} (ha : Ws I va A) (hb : Ws I vb B) : Fun prog 85 [va,vb] I [] (fun v _ _ => v = .bool (decide (A = B))) := by
 have hs := ha.most
 unfold maxLen at hs
 intro w hw
 refine qz _ func85 rfl ntmps85 rfl ?_ hw;refine sR ?_;refine oV ?_;refine nU ?_;refine oV ?_;refine ve trivial rfl underlying33 rfl (ha) ?_;refine oV ?_;refine ve trivial rfl underlying33 rfl (hb) ?_;refine oV ?_;refine nT ?_;refine cC rfl (fun h1 => ?_) (fun h1 => ?_)
 ·
  have f1 := h1;try simp only [bl] at f1
  refine sR ?_;refine oV ?_;refine nF ?_;refine ret1 rfl rfl ?_;refine qe (congrArg Value.bool ?_); rw [decide_eq_false]; intro e; exact f1 (by rw [e])
 have f1 := h1;try simp only [bl] at f1
 refine cK (tC (cS (sR ?_)));refine oV ?_;refine oN (tC (cB ?_));refine qt (ι := Nat) [0,1] (.cons rfl (.cons rfl .nil)) (fun i => A.length - i) (fun i E0 => (5,.int .i64 (i : Nat)) :: E0) (fun i => St w [] I []) (fun i => i ≤ A.length ∧ ∀ j,j < i → dg A j = dg B j) (0) (sC rfl (sC rfl (sC rfl sN))) (fun _ h => h) (⟨Nat.zero_le _,fun j h => absurd h (Nat.not_lt_zero _)⟩) ?_;rintro i ⟨hi,he⟩
 try dsimp only
 refine cS (sR ?_);iterate 2 refine oV ?_
 refine ve trivial rfl underlying33 rfl (ha) ?_;refine oV ?_;refine nT ?_;refine cC rfl (fun h2 => ?_) (fun h2 => ?_)
 ·
  have f2 := h2;try simp only [bl] at f2
  refine cK (tC (cS (cB (cS ?_))));refine jf (by kernel_rfl) (by kernel_rfl) (fun _ h => h.drawn) ?_;iterate 2 refine oV ?_
  refine yu trivial rfl underlying33 sizeOf134 rfl (ha) rfl (by omega) ?_;refine q7 trivial rfl isAgg134 rfl (ha.cellI (k := i) rfl (by omega)) ?_;iterate 2 refine oV ?_
  refine yu trivial rfl underlying33 sizeOf134 rfl (hb) rfl (by omega) ?_;refine q7 trivial rfl isAgg134 rfl (hb.cellI (k := i) rfl (by omega)) ?_;refine oV ?_;refine nT ?_;refine cC rfl (fun h3 => ?_) (fun h3 => ?_)
  ·
   have f3 := h3;try simp only [bl] at f3
   refine sR ?_;refine oV ?_;refine oN (tC (cT (qb (tR (tR (qb (tR ?_)))))));refine ret1 rfl rfl ?_;refine qe (congrArg Value.bool ?_); rw [decide_eq_false]; intro e; exact f3 (by rw [e])
  have f3 := h3;try simp only [bl] at f3
  refine cK (qg (tC (cR ?_)));refine oV ?_
  (refine qh trivial rfl rfl rfl ?_ ?_; (omega))
  refine oV ?_;refine oN ?_
  exact ql (i + 1) (sC rfl (sC rfl (sC rfl sN))) (fun _ h => h) (by show A.length - (i + 1) < A.length - i; omega) ⟨by show i + 1 ≤ _; omega, fun j hj => by
    by_cases hji : j = i
    · subst hji; omega
    · exact he j (by omega)⟩
 have f2 := h2;try simp only [bl] at f2
 refine qp (qc (qc (qo rfl (tC (sR ?_)))));refine oV ?_;refine nE ?_;refine ret1 rfl rfl ?_;refine qe (congrArg Value.bool ?_); rw [decide_eq_true]; exact q23 (by omega) fun j hj => he j (by omega)
theorem qax (va : Value) (A : List Nat) {I : Hp} (ha : Ws I va A) (hs : A.length ≤ 35184372088600) : Fun prog 115 [va] I [] (fun v I' _ => Ws I' v (natW (val A))) := by
 have hle : lowL A ≤ A.length := qaj A _
 intro w hw
 refine qn _ func115 rfl ntmps115 rfl ?_ hw;refine sR ?_;refine oV ?_;refine nS ?_;refine oV ?_;refine oQ call147 rfl (q25 _ _ ha hs) ?_;refine oV ?_;refine nS ?_;refine oV ?_;refine nU ?_;refine oV ?_;refine oN (tC (cB ?_));refine qt (ι := Nat × Value) [0,3] (.cons rfl (.cons rfl .nil)) (fun x => lowL A - x.1) (fun x E0 => (4,x.2) :: (5,.int .i64 (x.1 : Nat)) :: E0) (fun x => St w [] I [.row x.2 134 1 x.1 (wl (A.take x.1))]) (fun x => x.1 ≤ lowL A) ((0,.slice none 0 0)) (sC rfl (sC rfl (sC rfl (sC rfl sN)))) (fun _ h => h.nilRow _ _) (Nat.zero_le _) ?_;rintro ⟨i,u⟩ hi
 try dsimp only
 simp only at hi
 refine cS (sR ?_);iterate 3 refine oV ?_
 refine nT ?_;refine cC rfl (fun h1 => ?_) (fun h1 => ?_)
 ·
  have f1 := h1;try simp only [bl] at f1
  refine cK (tC (cS (cB (cR ?_))));iterate 3 refine oV ?_
  refine yu trivial rfl underlying33 sizeOf134 rfl (ha) rfl (by omega) ?_;refine q7 trivial rfl isAgg134 rfl (ha.cellI (k := i) rfl (by omega)) ?_;refine oB underlying33 sizeOf134 zeroValue134 fun b18 => ?_;refine oD underlying33 qdg fun v19 => ?_;refine oV ?_;refine oN (qg (tC (cR ?_)));refine oV ?_
  (refine qh trivial rfl rfl rfl ?_ ?_; (omega))
  refine oV ?_;refine oN ?_;exact ql (i + 1,v19) (sC rfl (sC rfl (sC rfl (sC rfl sN)))) (fun _ h => by rw [take_more (by omega),← qgi _ rfl]; exact h.sort (by repeat constructor)) (by show lowL A - (i + 1) < lowL A - i; omega) (by show i + 1 ≤ _; omega)
 have f1 := h1;try simp only [bl] at f1
 refine qp (qc (qc (qo rfl (tC (sR ?_)))));iterate 2 refine oV ?_
 refine nE ?_;refine ret1 rfl rfl ?_
 have hie : i = lowL A := by omega
 subst hie
 have hlen : (A.take (lowL A)).length = lowL A := by rw [List.length_take]; omega
 have hm := ha.most
 exact fun w' hw' => qsc (O := A.take (lowL A)) (Ext.refl _ _) (ha.wds.take _) (by omega) (fun I' hl hs => by rw [← qc6 ha.wds]; exact hs) w' (by rw [hlen]; exact hw')
theorem qe7 (va : Value) (A : List Nat) (i : Int) (k : Nat) {I : Hp} (ha : Ws I va A) (hi : i = k) : Fun prog 205 [va,.int .i64 i] I [] (fun v _ _ => v = .int .u64 (dg A k : Nat)) := by
 subst hi
 intro w hw
 refine qz _ func205 rfl ntmps205 rfl ?_ hw;refine sR ?_;refine oV ?_;refine nU ?_;iterate 2 refine oV ?_
 refine' oZ (fun hb7 => ?_) ?_;rotate_left
 ·
  have fb7 := hb7
  try simp only [bl] at fb7
  iterate 2 refine gV hb7 ?_
  refine ve (wS rfl rfl hb7) rfl underlying33 rfl (ha) ?_;refine gV hb7 ?_;refine oN ?_;exact qa rfl
 refine nT ?_;refine cC rfl (fun h1 => ?_) (fun h1 => ?_)
 ·
  have f1 := h1;try simp only [bl] at f1
  refine sR ?_;refine oV ?_;refine nF ?_;refine ret1 rfl rfl ?_;refine qe (congrArg (Value.int .u64) ?_); rw [qbg (by omega)]; rfl
 have f1 := h1;try simp only [bl] at f1
 refine kS ?_;iterate 2 refine oV ?_
 refine yu trivial rfl underlying33 sizeOf134 rfl (ha) rfl (by omega) ?_;refine q7 trivial rfl isAgg134 rfl (ha.cellI (k := k) rfl (by omega)) ?_
 have hdl := jg ha.wds k
 refine ya trivial rfl underlying134 underlying136 rfl (by rw [IntWalk.u64_in _ (by omega)]) ?_;refine oV ?_;refine nE ?_;refine ret1 rfl rfl ?_;exact qe rfl
theorem qsf (n : Nat) {I : Hp} (hn : n < 18446744073709551616) : Fun prog 86 [.int .u64 (n : Int)] I [] (fun v I' _ => Ws I' v (natW n)) := by
 have hnl : (natW n).length ≤ 2 := qa1 (by rw [show (4294967296 : Nat) ^ 2 = 18446744073709551616 by decide]; exact hn)
 intro w hw
 refine qn _ func86 rfl ntmps86 rfl ?_ hw;refine sR ?_;refine oV ?_;refine nS ?_;refine oV ?_;refine oN (tC (cS (cB ?_)));refine qt (ι := Nat × List Nat × Value) [] .nil (fun x => x.1) (fun x E0 => (0,.int .u64 (x.1 : Nat)) :: (3,x.2.2) :: E0) (fun x => St w [] I [.row x.2.2 134 1 x.2.1.length (wl x.2.1)]) (fun x => x.2.1 ++ natW x.1 = natW n ∧ x.1 < 18446744073709551616) ((n,[],.slice none 0 0)) (sC rfl (sC rfl sN)) (fun _ h => h.nilRow _ _) (⟨rfl,hn⟩) ?_;rintro ⟨m,O,u⟩ ⟨hO,hm⟩
 try dsimp only
 simp only at hO hm; have hol : O.length ≤ 2 := by rw [← hO,List.length_append] at hnl; omega
 refine cS (sR ?_);iterate 2 refine oV ?_
 refine nT ?_;refine cC rfl (fun h1 => ?_) (fun h1 => ?_)
 ·
  have f1 := h1;try simp only [bl] at f1
  have hm0 : m ≠ 0 := by omega
  refine cK (tC (cB (sR ?_)));iterate 2 refine oV ?_
  refine qca trivial rfl rfl rfl (by omega) ?_;refine ya trivial rfl underlying136 underlying134 rfl (by rw [IntWalk.u32_in _ (by omega)]) ?_;refine oB underlying33 sizeOf134 zeroValue134 fun b10 => ?_;refine oD underlying33 qdg fun v11 => ?_;refine oV ?_;refine nR ?_;refine oV ?_;refine qc2 trivial rfl rfl rfl (by omega) (by rw [IntWalk.u64_in _ (by omega)]) ?_;refine oV ?_;refine oN (qg ?_);exact ql (m / 4294967296,O ++ [m % 4294967296],v11) (sC rfl (sC rfl sN)) (fun _ h => by rw [← qgi O (z := (m : Int) % 4294967296) (by omega),List.length_append]; exact h.sort (by repeat constructor)) (by show m / 4294967296 < m; omega) ⟨by show (O ++ [m % 4294967296]) ++ natW (m / 4294967296) = natW n; rw [← hO,qbi hm0]; simp,by show m / 4294967296 < _; omega⟩
 have f1 := h1;try simp only [bl] at f1
 refine qp (qc (qc (qo rfl (tC (sR ?_)))));iterate 2 refine oV ?_
 refine nE ?_;refine ret1 rfl rfl ?_
 have hm0 : m = 0 := by omega
 subst hm0
 rw [yg,List.append_nil] at hO
 exact qsc (Ext.refl _ _) (by rw [hO]; exact qak n) (by unfold maxLen; omega) (fun I' hl hs => by rw [← hO]; exact hs)
theorem qe8 (va vb : Value) (A B : List Nat) {I : Hp} (ha : Ws I va A) (hb : Ws I vb B) (hs : A.length ≤ 35184372088600) (hs2 : B.length ≤ 35184372088600) : Fun prog 179 [va,vb] I [] (fun v _ _ => v = .int .i64 (cmpZ (val A : Nat) (val B : Nat))) := by
 intro w hw
 refine qz _ func179 rfl ntmps179 rfl ?_ hw;refine sR ?_;refine oV ?_;refine nS ?_;refine oV ?_;refine ve trivial rfl underlying33 rfl (ha) ?_;refine oV ?_;refine ve trivial rfl underlying33 rfl (hb) ?_;refine qbf trivial rfl rfl rfl ?_;refine oV ?_;refine nU ?_;refine oV ?_
 (refine vp trivial rfl rfl rfl ?_ ?_; (omega))
 refine oV ?_;refine oN (tC (cB ?_));refine qt (ι := Nat × Int) [0,1] (.cons rfl (.cons rfl .nil)) (fun x => x.1) (fun x E0 => (6,.int .i64 x.2) :: E0) (fun x => St w [] I []) (fun x => x.2 = (x.1 : Int) - 1 ∧ x.1 ≤ 35184372088600 ∧ ∀ t,x.1 ≤ t → dg A t = dg B t) ((max A.length B.length,max (A.length : Int) (B.length : Int) - 1)) (sC rfl (sC rfl (sC rfl sN))) (fun _ h => h) (⟨by simp only; omega,by show max A.length B.length ≤ _; omega,fun t ht => by have h9 : max A.length B.length ≤ t := ht; rw [qbg (by omega),qbg (by omega)]⟩) ?_;rintro ⟨j,z⟩ ⟨hz,hj,he⟩
 try dsimp only
 simp only at hz hj he; subst hz
 refine cS (sR ?_);iterate 2 refine oV ?_
 refine nT ?_;refine cC rfl (fun h1 => ?_) (fun h1 => ?_)
 ·
  have f1 := h1;try simp only [bl] at f1
  refine cK (tC (cS (cB (cS (sR ?_)))));iterate 2 refine oV ?_
  refine oQ call205 rfl (qe7 _ A _ (j - 1) ha (by omega)) ?_;iterate 2 refine oV ?_
  refine oQ call205 rfl (qe7 _ B _ (j - 1) hb (by omega)) ?_;refine oV ?_;refine nT ?_;refine cC rfl (fun h2 => ?_) (fun h2 => ?_)
  ·
   have f2 := h2;try simp only [bl] at f2
   refine sR ?_;refine oV ?_;refine oN (tC (cT (tR (qb (tR (tR (qb (tR ?_))))))));refine ret1 rfl rfl ?_;refine qe (congrArg (Value.int .i64) ?_)
   have := qsb ha.wds hb.wds (i := j - 1) (by omega) (fun t ht => he t (by omega))
   rw [qcm (by omega)]
  have f2 := h2;try simp only [bl] at f2
  refine kS ?_;iterate 2 refine oV ?_
  refine oQ call205 rfl (qe7 _ A _ (j - 1) ha (by omega)) ?_;iterate 2 refine oV ?_
  refine oQ call205 rfl (qe7 _ B _ (j - 1) hb (by omega)) ?_;refine oV ?_;refine nT ?_;refine cC rfl (fun h3 => ?_) (fun h3 => ?_)
  ·
   have f3 := h3;try simp only [bl] at f3
   refine sR ?_;refine oV ?_;refine oN (tC (cT (qb (tR (tR (qb (tR ?_)))))));refine ret1 rfl rfl ?_;refine qe (congrArg (Value.int .i64) ?_)
   have := qsb hb.wds ha.wds (i := j - 1) (by omega) (fun t ht => (he t (by omega)).symm)
   rw [qee (by omega)]
  have f3 := h3;try simp only [bl] at f3
  refine cK (qg (tC (cR ?_)));refine oV ?_
  (refine vp trivial rfl rfl rfl ?_ ?_; (omega))
  refine oV ?_;refine oN ?_
  exact ql (j - 1, (j : Int) - 1 - 1) (sC rfl (sC rfl (sC rfl sN))) (fun _ h => h) (by show j - 1 < j; omega) ⟨by simp only; omega, by show j - 1 ≤ _; omega, fun t ht => by
    have h9 : j - 1 ≤ t := ht
    by_cases htj : t = j - 1
    · subst htj; omega
    · exact he t (by omega)⟩
 have f1 := h1;try simp only [bl] at f1
 refine qp (qc (qc (qo rfl (tC (sR ?_)))));refine oV ?_;refine nE ?_;refine ret1 rfl rfl ?_;refine qe (congrArg (Value.int .i64) ?_)
 rw [q24 (A := A) (B := B) fun t => he t (by omega),qcn]
end Go.Proofs.YtfcmhcaggdakbaaGreatDoor
namespace Go.Tw
theorem ql7 {A : List Nat} {k : Nat} (h : A.length ≤ k) : pre A k = val A := qai h
theorem q26 {O : List Nat} {T i s c c' a : Nat} (hl : O.length = i) (h : val O + 4294967296 ^ i * c = T) (hs : s + 4294967296 * c' = a + c) : val (O ++ [s]) + 4294967296 ^ (i + 1) * c' = T + a * 4294967296 ^ i := by
 rw [ql6,hl,pow_succ]
 have e1 : 4294967296 ^ i * 4294967296 * c' = 4294967296 ^ i * (4294967296 * c') := Nat.mul_assoc _ _ _
 have e2 : 4294967296 ^ i * s + 4294967296 ^ i * (4294967296 * c') = 4294967296 ^ i * a + 4294967296 ^ i * c := by rw [← Nat.mul_add,← Nat.mul_add,hs]
 have e3 : a * 4294967296 ^ i = 4294967296 ^ i * a := Nat.mul_comm _ _
 rw [e1,e3]
 generalize 4294967296 ^ i * s = x1 at *
 generalize 4294967296 ^ i * (4294967296 * c') = x2 at *
 generalize 4294967296 ^ i * a = x3 at *
 generalize 4294967296 ^ i * c = x4 at *
 omega
theorem q27 {O : List Nat} {T U i s c c' a b : Nat} (hl : O.length = i) (h : val O + U = T + 4294967296 ^ i * c) (hs : s + b + c = a + 4294967296 * c') : val (O ++ [s]) + (U + b * 4294967296 ^ i) = (T + a * 4294967296 ^ i) + 4294967296 ^ (i + 1) * c' := by
 rw [ql6,hl,pow_succ]
 have e1 : 4294967296 ^ i * 4294967296 * c' = 4294967296 ^ i * (4294967296 * c') := Nat.mul_assoc _ _ _
 have e2 : 4294967296 ^ i * s + 4294967296 ^ i * b + 4294967296 ^ i * c = 4294967296 ^ i * a + 4294967296 ^ i * (4294967296 * c') := by rw [← Nat.mul_add,← Nat.mul_add,← Nat.mul_add,hs]
 have e3 : a * 4294967296 ^ i = 4294967296 ^ i * a := Nat.mul_comm _ _
 have e4 : b * 4294967296 ^ i = 4294967296 ^ i * b := Nat.mul_comm _ _
 rw [e1,e3,e4]
 generalize 4294967296 ^ i * s = x1 at *
 generalize 4294967296 ^ i * (4294967296 * c') = x2 at *
 generalize 4294967296 ^ i * a = x3 at *
 generalize 4294967296 ^ i * b = x5 at *
 generalize 4294967296 ^ i * c = x4 at *
 omega
theorem q28 {a w c : Nat} (ha : a < 4294967296) (hw : w < 4294967296) (hc : c < 4294967296) : a * w + c < 4294967296 * 4294967296 := by
 have h1 : a * w ≤ 4294967295 * 4294967295 := Nat.mul_le_mul (by omega) (by omega)
 omega
end Go.Tw
namespace Go.Proofs.YtfcmhcaggdakbaaGreatDoor
open Go Go.Tw
theorem ql8 (va vb : Value) (A B : List Nat) {I : Hp} (ha : Ws I va A) (hb : Ws I vb B) (hs : A.length ≤ 35184372088500) (hs2 : B.length ≤ 35184372088500) (hle : val B ≤ val A) : Fun prog 180 [va,vb] I [] (fun v I' _ => ∃ u,v = .tuple #[u,.bool true] ∧ Ws I' u (natW (val A - val B))) := by
 have hcmp : ¬ cmpZ (val A : Nat) (val B : Nat) < 0 := by unfold cmpZ; split <;> (try split) <;> omega
 intro w hw
 refine qz _ func180 rfl ntmps180 rfl ?_ hw;refine sR ?_;iterate 2 refine oV ?_
 refine nU ?_;iterate 2 refine oV ?_
 refine oQ call179 rfl (qe8 _ _ _ _ ha hb (by omega) (by omega)) ?_;refine oV ?_;refine nT ?_;refine cC rfl (fun h1 => ?_) (fun h1 => ?_)
 ·
  have f1 := h1;try simp only [bl] at f1
  exfalso; exact hcmp f1
 have f1 := h1;try simp only [bl] at f1
 refine kS ?_;refine oV ?_;refine nS ?_;refine oV ?_;refine nU ?_;refine oV ?_;refine oN (tC (cB ?_));refine qt (ι := Nat × Nat × List Nat × Value) [0,1] (.cons rfl (.cons rfl .nil)) (fun x => A.length - x.1) (fun x E0 => (6,x.2.2.2) :: (7,.int .u64 (x.2.1 : Nat)) :: (8,.int .i64 (x.1 : Nat)) :: E0) (fun x => St w [] I [.row x.2.2.2 134 1 x.2.2.1.length (wl x.2.2.1)]) (fun x => x.1 ≤ A.length ∧ x.2.1 ≤ 1 ∧ x.2.2.1.length = x.1 ∧ Wds x.2.2.1 ∧ val x.2.2.1 + pre B x.1 = pre A x.1 + 4294967296 ^ x.1 * x.2.1) ((0,0,[],.slice none 0 0)) (sC rfl (sC rfl (sC rfl (sC rfl (sC rfl sN))))) (fun _ h => h.nilRow _ _) (⟨Nat.zero_le _,by decide,rfl,zj,rfl⟩) ?_;rintro ⟨i,c,O,u⟩ ⟨hi,hc,hol,hO,hv⟩
 try dsimp only
 simp only at hi hc hol hO hv; have hda := jg ha.wds i; have hdb := jg hb.wds i
 refine cS (sR ?_);iterate 2 refine oV ?_
 refine ve trivial rfl underlying33 rfl (ha) ?_;refine oV ?_;refine nT ?_;refine cC rfl (fun h2 => ?_) (fun h2 => ?_)
 ·
  have f2 := h2;try simp only [bl] at f2
  refine cK (tC (cS (cB (sR ?_))));iterate 2 refine oV ?_
  refine oQ call205 rfl (qe7 _ A _ i ha rfl) ?_;refine qc4 trivial rfl rfl rfl (by rw [IntWalk.u64_in _ (by omega)]) ?_;iterate 2 refine oV ?_
  refine oQ call205 rfl (qe7 _ B _ i hb rfl) ?_;refine qg1 trivial rfl rfl rfl (by rw [IntWalk.u64_in _ (by omega)]) ?_;refine oV ?_;refine qg1 trivial rfl rfl rfl (by rw [IntWalk.u64_in _ (by omega)]) ?_;refine oV ?_;refine nS ?_;iterate 2 refine oV ?_
  refine qca trivial rfl rfl rfl (by omega) ?_;refine ya trivial rfl underlying136 underlying134 rfl (by rw [IntWalk.u32_in _ (by omega)]) ?_;refine oB underlying33 sizeOf134 zeroValue134 fun b34 => ?_;refine oD underlying33 qdg fun v35 => ?_;refine oV ?_;refine nR ?_;refine oV ?_;refine qc2 trivial rfl rfl rfl (by omega) (by rw [IntWalk.u64_in _ (by omega)]) ?_;refine qg1 trivial rfl rfl rfl (by rw [IntWalk.u64_in _ (by omega)]) ?_;refine oV ?_;refine oN (qg (tC (cR ?_)));refine oV ?_
  (refine qh trivial rfl rfl rfl ?_ ?_; (omega))
  refine oV ?_;refine oN ?_
  have hst := q27 (s := (4294967296 + dg A i - dg B i - c) % 4294967296) (c' := 1 - (4294967296 + dg A i - dg B i - c) / 4294967296) (a := dg A i) (b := dg B i) hol hv (by omega)
  have e7 : (1 : Int) - (4294967296 + (dg A i : Int) - (dg B i : Int) - (c : Int)) / 4294967296 = ((1 - (4294967296 + dg A i - dg B i - c) / 4294967296 : Nat) : Int) := by omega
  exact ql (i + 1,1 - (4294967296 + dg A i - dg B i - c) / 4294967296,O ++ [(4294967296 + dg A i - dg B i - c) % 4294967296],v35) (by rw [e7]; exact (sC rfl (sC rfl (sC rfl (sC rfl (sC rfl sN)))))) (fun _ h => by rw [← qgi O (z := (4294967296 + (dg A i : Int) - (dg B i : Int) - (c : Int)) % 4294967296) (by omega),List.length_append]; exact h.sort (by repeat constructor)) (by show A.length - (i + 1) < A.length - i; omega) ⟨by show i + 1 ≤ _; omega,by show 1 - _ ≤ 1; omega,by show (O ++ [_]).length = i + 1; rw [List.length_append,hol]; rfl,hO.more (by omega),hst⟩
 have f2 := h2;try simp only [bl] at f2
 refine qp (qc (qc (qo rfl (tC (cS ?_)))))
 have hie : i = A.length := by omega
 subst hie
 rw [ql7 (Nat.le_refl _)] at hv
 have hB : pre B A.length = val B := by
   rcases Nat.lt_or_ge A.length B.length with hlt | hge
   · have h1 := qn0 (l := B) (i := A.length) (by omega)
     have h2 := jj ha.wds
     have h3 : val (B.drop A.length) = 0 := by
       rcases Nat.eq_zero_or_pos (val (B.drop A.length)) with h | h
       · exact h
       · have : 4294967296 ^ A.length * 1 ≤ 4294967296 ^ A.length * val (B.drop A.length) := Nat.mul_le_mul_left _ h
         omega
     rw [h3,Nat.mul_zero] at h1
     omega
   · exact ql7 hge
 have hc0 : c = 0 := by
   have h2 := jj hO
   rw [hol] at h2
   rw [hB] at hv
   rcases Nat.eq_zero_or_pos c with h | h
   · exact h
   · have : 4294967296 ^ A.length * 1 ≤ 4294967296 ^ A.length * c := Nat.mul_le_mul_left _ h
     omega
 subst hc0
 rw [hB,Nat.mul_zero,Nat.add_zero] at hv
 refine qsd O .here hO (by unfold maxLen; omega) (fun I1 hx1 hs1 => ?_);refine cR ?_;refine oV ?_;refine oI call115 rfl (qax _ _ hs1 (by omega)) ?_;rintro u2 I2 hx2 hs2';iterate 2 refine oV ?_
 refine nE ?_;refine ret2 rfl rfl rfl ?_;refine leaf (hx1.trans hx2 (Nat.le_refl _)) (List.nil_sublist _) ⟨u2,rfl,?_⟩; rw [show val O = val A - val B by omega] at hs2'; exact hs2'
theorem qgj (va : Value) (A : List Nat) (y c0 : Nat) {I : Hp} (ha : Ws I va A) (hs : A.length ≤ 35184372088500) (hy : y < 4294967296) (hc0 : c0 < 4294967296) : Fun prog 177 [va,.int .u32 (y : Int),.int .u32 (c0 : Int)] I [] (fun v I' _ => Ws I' v (natW (val A * y + c0))) := by
 intro w hw
 refine j5 _ func177 rfl ntmps177 rfl ?_ hw;refine sR ?_;refine oV ?_;refine nS ?_;refine oV ?_;refine nS ?_;refine oV ?_;refine ya trivial rfl underlying134 underlying136 rfl (by rw [IntWalk.u64_in _ (by omega)]) ?_;refine oV ?_;refine nU ?_;refine oV ?_;refine oN (tC (cB ?_));refine qt (ι := Nat × Nat × List Nat × Value) [0,1] (.cons rfl (.cons rfl .nil)) (fun x => A.length - x.1) (fun x E0 => (7,x.2.2.2) :: (8,.int .u64 (x.2.1 : Nat)) :: (9,.int .i64 (x.1 : Nat)) :: E0) (fun x => St w [] I [.row x.2.2.2 134 1 x.2.2.1.length (wl x.2.2.1)]) (fun x => x.1 ≤ A.length ∧ x.2.1 < 4294967296 ∧ x.2.2.1.length = x.1 ∧ Wds x.2.2.1 ∧ val x.2.2.1 + 4294967296 ^ x.1 * x.2.1 = pre A x.1 * y + c0) ((0,c0,[],.slice none 0 0)) (sC rfl (sC rfl (sC rfl (sC rfl (sC rfl sN))))) (fun _ h => h.nilRow _ _) (⟨Nat.zero_le _,hc0,rfl,zj,by show 0 + 4294967296 ^ 0 * c0 = 0 * y + c0; omega⟩) ?_;rintro ⟨i,c,O,u⟩ ⟨hi,hc,hol,hO,hv⟩
 try dsimp only
 simp only at hi hc hol hO hv; have hda := jg ha.wds i; have hmw := q28 hda hy hc
 refine cS (sR ?_);iterate 2 refine oV ?_
 refine ve trivial rfl underlying33 rfl (ha) ?_;refine oV ?_;refine nT ?_;refine cC rfl (fun h1 => ?_) (fun h1 => ?_)
 ·
  have f1 := h1;try simp only [bl] at f1
  refine cK (tC (cS (cB (sR ?_))));iterate 2 refine oV ?_
  refine yu trivial rfl underlying33 sizeOf134 rfl (ha) rfl (by omega) ?_;refine q7 trivial rfl isAgg134 rfl (ha.cellI (k := i) rfl (by omega)) ?_;refine ya trivial rfl underlying134 underlying136 rfl (by rw [IntWalk.u64_in _ (by omega)]) ?_;refine oV ?_;refine ya trivial rfl underlying134 underlying136 rfl (by rw [IntWalk.u64_in _ (by omega)]) ?_
  rw [show (dg A i : Int) = ((dg A i : Nat) : Int) from rfl]
  (refine qnv trivial rfl rfl rfl (by rw [IntWalk.u64_in _ (by rw [← Int.natCast_mul]; omega)]) ?_)
  refine oV ?_
  rw [← Int.natCast_mul]
  refine qc4 trivial rfl rfl rfl (by rw [IntWalk.u64_in _ (by omega)]) ?_;refine oV ?_;refine nS ?_;iterate 2 refine oV ?_
  refine qca trivial rfl rfl rfl (by omega) ?_;refine ya trivial rfl underlying136 underlying134 rfl (by rw [IntWalk.u32_in _ (by omega)]) ?_;refine oB underlying33 sizeOf134 zeroValue134 fun b33 => ?_;refine oD underlying33 qdg fun v34 => ?_;refine oV ?_;refine nR ?_;refine oV ?_;refine qc2 trivial rfl rfl rfl (by omega) (by rw [IntWalk.u64_in _ (by omega)]) ?_;refine oV ?_;refine oN (qg (tC (cR ?_)));refine oV ?_
  (refine qh trivial rfl rfl rfl ?_ ?_; (omega))
  refine oV ?_;refine oN ?_
  have hst := q26 (s := (dg A i * y + c) % 4294967296) (c' := (dg A i * y + c) / 4294967296) (a := dg A i * y) hol hv (by omega)
  exact ql (i + 1, (dg A i * y + c) / 4294967296, O ++ [(dg A i * y + c) % 4294967296], v34) (sC rfl (sC rfl (sC rfl (sC rfl (sC rfl sN))))) (fun _ h => by rw [← qgi O (z := (((dg A i * y : Nat) : Int) + (c : Int)) % 4294967296) (by omega), List.length_append]; exact h.sort (by repeat constructor)) (by show A.length - (i + 1) < A.length - i; omega) ⟨by show i + 1 ≤ _; omega, by show (dg A i * y + c) / 4294967296 < 4294967296; omega, by show (O ++ [_]).length = i + 1; rw [List.length_append, hol]; rfl, hO.more (by omega), by
    show val (O ++ [_]) + 4294967296 ^ (i + 1) * _ = (pre A i + dg A i * 4294967296 ^ i) * y + c0
    rw [hst,Nat.add_mul,Nat.mul_right_comm]; omega⟩
 have f1 := h1;try simp only [bl] at f1
 refine qp (qc (qc (qo rfl (tC (cS ?_)))))
 have hie : i = A.length := by omega
 subst hie
 rw [ql7 (Nat.le_refl _)] at hv
 refine cR ?_;iterate 2 refine oV ?_
 refine ya trivial rfl underlying136 underlying134 rfl (by rw [IntWalk.u32_in _ (by omega)]) ?_;refine oB underlying33 sizeOf134 zeroValue134 fun b40 => ?_;refine oD underlying33 qdg fun v41 => ?_;refine oV ?_;refine oN (tC (cS ?_))
 rw [show wl O ++ ([Value.int .u32 (c : Int)] ++ []) = wl (O ++ [c]) from qgi O rfl]
 refine qsd (O ++ [c]) (by rw [List.length_append]; exact .there .here) (hO.more hc) (by rw [List.length_append,hol]; have := ha.most; unfold maxLen at *; show A.length + 1 ≤ _; omega) (fun I1 hx1 hs1 => ?_)
 rw [← hol,← ql6] at hv
 refine cR ?_;refine oV ?_;refine oI call115 rfl (qax _ _ hs1 (by rw [List.length_append,hol]; show A.length + 1 ≤ _; omega)) ?_;rintro u2 I2 hx2 hs2';refine oV ?_;refine nE ?_;refine ret1 rfl rfl ?_;refine leaf (hx1.trans hx2 (Nat.le_refl _)) (List.nil_sublist _) ?_; rw [hv] at hs2'; exact hs2'
theorem q29 (va : Value) (A : List Nat) (m : Nat) {I : Hp} (ha : Ws I va A) (hs : A.length ≤ 1000000) (hm : m ≤ 100000) : Fun prog 202 [va,.int .i64 (m : Int)] I [] (fun v I' _ => Ws I' v (natW (val A * 2 ^ m))) := by
 have hA := jj ha.wds
 intro w hw
 refine qz _ func202 rfl ntmps202 rfl ?_ hw;refine sR ?_;refine oV ?_;refine nS ?_;refine oV ?_;refine oI call115 rfl (qax _ _ ha (by omega)) ?_;rintro u1 I1 hx1 hs1;refine oV ?_;refine nU ?_;refine oV ?_;refine oN (tC (cB ?_));refine qt (ι := Nat × Value × Hp) [1] (.cons rfl .nil) (fun x => m - x.1) (fun x E0 => (5,x.2.1) :: (6,.int .i64 (x.1 : Nat)) :: E0) (fun x => St w [] x.2.2 []) (fun x => x.1 ≤ m ∧ Ws x.2.2 x.2.1 (natW (val A * 2 ^ x.1)) ∧ Ext w.heap.size I x.2.2) ((0,u1,I1)) (sC rfl (sC rfl (sC rfl sN))) (fun _ h => h) (⟨Nat.zero_le _,by show Ws I1 u1 (natW (val A * 1)); rw [Nat.mul_one]; exact hs1,hx1⟩) ?_;rintro ⟨i,u,I2⟩ ⟨hi,hu,hx2⟩
 try dsimp only
 simp only at hi hu hx2
 refine cS (sR ?_);iterate 3 refine oV ?_
 refine' oY (fun hb12 => ?_) ?_;rotate_left
 ·
  iterate 2 refine gV hb12 ?_
  refine oN ?_;exact qa rfl
 refine' oY (fun hb16 => ?_) ?_;rotate_left
 ·
  have fb16 := hb16
  try simp only [bl] at fb16
  refine gV hb16 ?_;refine ve (wS rfl rfl hb16) rfl underlying33 rfl (hu) ?_;refine gV hb16 ?_;refine oN ?_;exact qa rfl
 refine nT ?_;refine cC rfl (fun h1 => ?_) (fun h1 => ?_)
 ·
  have f1 := h1;try simp only [bl] at f1
  have hl1 : (natW (val A * 2 ^ i)).length ≤ A.length + (i + 1) := qa1 (by
    rw [Nat.pow_add]
    refine Nat.mul_lt_mul'' hA ?_
    have h2 : 2 ^ i < 2 ^ (32 * (i + 1)) := Nat.pow_lt_pow_right (by decide) (by omega)
    rwa [Nat.pow_mul] at h2)
  refine cK (tC (cS (cB (cR ?_))));refine oV ?_;refine oI call177 rfl (qgj _ _ 2 0 hu (by omega) (by decide) (by decide)) ?_;rintro u3 I3 hx3 hs3;refine oV ?_;refine oN (qg (tC (cR ?_)));refine oV ?_
  (refine qh trivial rfl rfl rfl ?_ ?_; (omega))
  refine oV ?_;refine oN ?_
  rw [qk,Nat.add_zero,Nat.mul_assoc,← Nat.pow_succ] at hs3
  exact ql (i + 1,u3,I3) (sC rfl (sC rfl (sC rfl sN))) (fun _ h => h) (by show m - (i + 1) < m - i; omega) ⟨by show i + 1 ≤ _; omega,hs3,hx2.trans hx3 (Nat.le_refl _)⟩
 have f1 := h1;try simp only [bl] at f1
 refine qp (qc (qc (qo rfl (tC (sR ?_)))));iterate 2 refine oV ?_
 refine nE ?_;refine ret1 rfl rfl ?_;refine leaf hx2 (List.nil_sublist _) ?_
 by_cases him : i = m
 · subst him; exact hu
 · have h0 : val A * 2 ^ i = 0 := jk.1 (by omega)
   have hp : 0 < 2 ^ i := Nat.pow_pos (by decide)
   have h1 : val A = 0 := by
     rcases Nat.mul_eq_zero.1 h0 with h | h
     · exact h
     · omega
   rw [h1,Nat.zero_mul] at hu ⊢
   exact hu
end Go.Proofs.YtfcmhcaggdakbaaGreatDoor
namespace Go.Tw
open Go
theorem q3a {a : Nat} (ha : a < 4294967296) : bits .and .u32 (a : Int) ((1 : Nat) : Int) = ((a % 2 : Nat) : Int) := by
 have h1 : (BitVec.ofInt 32 (a : Int)).toNat = a := by
   rw [BitVec.ofInt_natCast,BitVec.toNat_ofNat]; exact Nat.mod_eq_of_lt (by omega)
 have h2 : (BitVec.ofInt 32 ((1 : Nat) : Int)).toNat = 1 := by
   rw [BitVec.ofInt_natCast,BitVec.toNat_ofNat]
 show IntKind.u32.wrap ((BitVec.ofInt 32 (a : Int) &&& BitVec.ofInt 32 ((1 : Nat) : Int)).toNat : Int) = _
 rw [BitVec.toNat_and,h1,h2,Nat.and_one_is_mod,IntWalk.u32_in _ (by omega)]
section
variable {P : Program} {ops : Array Oper} {rest : List Oper} {n : Nat} {D : List Deferred} {E : Env} {S : World → Prop} {Q : Exit → Act → World → Prop} {d : Nat} {ty : TypeId} {pos : String} {aft : Array Edge} {g : Option (Nat × Bool)}
theorem q3b {qm : Bool} {x y : Operand} {t t2 : TypeId} {a : Nat} (hg : qi ops E g) (hd : Nat.blt d n = true) (hx : ev E x = some (.int .u32 (a : Int))) (hy : ev E y = some (.int .u32 1)) (h : a < 4294967296)
   (k : TL qm P ops Q rest n D ((d,.int .u32 ((a % 2 : Nat) : Int)) :: E) S) : TL qm P ops Q (⟨some d,.binOp .and t x y t2,ty,pos,aft,g⟩ :: rest) n D E S :=
 o_rd hg hd (v := .int .u32 ((a % 2 : Nat) : Int)) (fun a w ha hw d pos aft g => ⟨w, by
   simp only [execOp,ha.ev hx,ha.ev hy,Sem.run_bind,qc0,Result.andThen_ok]
   rw [binOp_and,intBits_and,show (1 : Int) = ((1 : Nat) : Int) from rfl,q3a h]
   simp,rfl⟩) k
end
theorem q3c {A : List Nat} (hA : Wds A) {i : Nat} (h : i / 32 < A.length) : dg A (i / 32) / 2 ^ (i % 32) % 2 = val A / 2 ^ i % 2 := by
 have hr : i % 32 < 32 := Nat.mod_lt _ (by decide)
 have h1 := qn0 (l := A) (i := i / 32) (by omega)
 have h2 := qjc h
 have h3 : 2 ^ i = 4294967296 ^ (i / 32) * 2 ^ (i % 32) := by
   rw [qcf,← Nat.pow_add]; congr 1; omega
 have h4 : val A / 4294967296 ^ (i / 32) = val (A.drop (i / 32)) := by
   rw [h1,Nat.add_mul_div_left _ _ (pow_pos _),Nat.div_eq_of_lt (qbh hA _),Nat.zero_add]
 have h5 : (4294967296 : Nat) = 2 ^ (i % 32) * (2 * 2 ^ (31 - i % 32)) := by
   rw [← Nat.pow_succ',← Nat.pow_add,show i % 32 + (31 - i % 32).succ = 32 by omega]
 rw [h3,← Nat.div_div_eq_div_mul,h4,h2,h5,Nat.mul_assoc,Nat.mul_assoc,Nat.add_mul_div_left _ _ (Nat.pow_pos (by decide)),Nat.add_mul_mod_self_left]
theorem q3d {a i d q r : Nat} (hd : 0 < d) (hq : q = a / 2 ^ (i + 1) / d) (hr : r = a / 2 ^ (i + 1) % d) :
   (d ≤ 2 * r + a / 2 ^ i % 2 → 2 * q + 1 = a / 2 ^ i / d ∧ 2 * r + a / 2 ^ i % 2 - d = a / 2 ^ i % d) ∧ (¬ d ≤ 2 * r + a / 2 ^ i % 2 → 2 * q = a / 2 ^ i / d ∧ 2 * r + a / 2 ^ i % 2 = a / 2 ^ i % d) := by
 have h1 : a / 2 ^ (i + 1) = a / 2 ^ i / 2 := by rw [Nat.pow_succ,Nat.div_div_eq_div_mul]
 have h2 : r < d := by rw [hr]; exact Nat.mod_lt _ hd
 have h3 := Nat.div_add_mod (a / 2 ^ (i + 1)) d
 rw [← hq,← hr,h1] at h3
 generalize a / 2 ^ i = b at *
 have hb : b % 2 < 2 := Nat.mod_lt _ (by decide)
 have hm : d * (2 * q) = 2 * (d * q) := Nat.mul_left_comm _ _ _
 constructor
 · intro h
   exact qg6 (by rw [Nat.mul_comm,Nat.mul_add,Nat.mul_one,hm]; omega) (by omega)
 · intro h
   exact qg6 (by rw [Nat.mul_comm,hm]; omega) (by omega)
end Go.Tw
namespace Go.Proofs.YtfcmhcaggdakbaaGreatDoor
open Go Go.Tw
theorem q3e (va : Value) (A : List Nat) (i : Nat) {I : Hp} (ha : Ws I va A) (hs : A.length ≤ 35184372088400) (hi : i < 32 * A.length) : Fun prog 178 [va,.int .i64 (i : Int)] I [] (fun v _ _ => v = .int .u32 ((val A / 2 ^ i % 2 : Nat) : Int)) := by
 have hd := jg ha.wds (i / 32)
 have hd2 : dg A (i / 32) / 2 ^ (i % 32) ≤ dg A (i / 32) := Nat.div_le_self _ _
 intro w hw
 refine qz _ func178 rfl ntmps178 rfl ?_ hw;refine sR ?_;refine oV ?_;refine nS ?_;iterate 2 refine oV ?_
 refine qc2 trivial rfl rfl rfl (by omega) (by rw [IntWalk.i64_in _ (by omega)]) ?_
 rw [show (i : Int) / 32 = ((i / 32 : Nat) : Int) by omega]
 refine yu trivial rfl underlying33 sizeOf134 rfl (ha) rfl (by omega) ?_;refine q7 trivial rfl isAgg134 rfl (ha.cellI (k := i / 32) rfl (by omega)) ?_;refine oV ?_;refine qca trivial rfl rfl rfl (by omega) ?_
 rw [show (i : Int) % 32 = ((i % 32 : Nat) : Int) by omega]
 refine qd2 (2 ^ (i % 32)) trivial rfl rfl rfl (by omega) (by rw [Int.toNat_natCast,show min (i % 32) IntKind.u32.bits = i % 32 from Nat.min_eq_left (by show i % 32 ≤ 32; omega)]) (by omega) ?_
 rw [show (dg A (i / 32) : Int) / ((2 ^ (i % 32) : Nat) : Int) = ((dg A (i / 32) / 2 ^ (i % 32) : Nat) : Int) from (Int.natCast_ediv _ _).symm]
 refine q3b trivial rfl rfl rfl (by omega) ?_;refine oV ?_;refine nE ?_;refine ret1 rfl rfl ?_;refine qe (congrArg (Value.int .u32) ?_); rw [q3c ha.wds (by omega)]
theorem qsg {n b k : Nat} (h : (natW n).length ≤ k) (hb : (natW b).length ≤ k) : (natW (2 * n + b)).length ≤ k + 2 := by
 rw [Nat.two_mul]
 exact qo1 _ _ (k + 1) (qo1 _ _ k h h) (by omega)
theorem q3f {b : Nat} (h : b ≤ 1) : (natW b).length ≤ 1 := qa1 (by rw [Nat.pow_one]; omega)
theorem qgk (va vb : Value) (A B : List Nat) {I : Hp} (ha : Ws I va A) (hb : Ws I vb B) (hs : A.length ≤ 35184372088400) (hs2 : B.length ≤ 35184372088400) (h0 : 0 < val B) : Fun prog 148 [va,vb] I [] (fun v I' _ => ∃ u1 u2,v = .tuple #[u1,u2,.bool true] ∧ Ws I' u1 (natW (val A / val B)) ∧ Ws I' u2 (natW (val A % val B))) := by
 have hbl : (natW (val B)).length ≤ B.length := zz hb.wds
 have hbz : (natW (val B)).length ≠ 0 := fun e => by have := jk.1 e; omega
 have hA : val A < 2 ^ (32 * A.length) := by have := jj ha.wds; rwa [qcf] at this
 have hal : (natW (val A)).length ≤ A.length := zz ha.wds
 intro w hw
 refine qz _ func148 rfl ntmps148 rfl ?_ hw;refine sR ?_;iterate 3 refine oV ?_
 refine nS ?_;refine oV ?_;refine oI call115 rfl (qax _ _ hb (by omega)) ?_;rintro u1 I1 hx1 hs1;refine oV ?_;refine nU ?_;refine oV ?_;refine ve trivial rfl underlying33 rfl (hs1) ?_;refine oV ?_;refine nT ?_;refine cC rfl (fun h1 => ?_) (fun h1 => ?_)
 ·
  have f1 := h1;try simp only [bl] at f1
  exfalso; omega
 have f1 := h1;try simp only [bl] at f1
 refine kS ?_;refine oV ?_;refine nS ?_;refine oV ?_;refine nU ?_;refine oV ?_;refine ve trivial rfl underlying33 rfl (ha) ?_
 (refine jy trivial rfl rfl rfl ?_ ?_; (omega))
 (refine vp trivial rfl rfl rfl ?_ ?_; (omega))
 refine oV ?_;refine oN (tC (cB ?_));refine qt (ι := Nat × Int × Value × Value × Hp) [0,7] (.cons rfl (.cons rfl .nil)) (fun x => x.1) (fun x E0 => (8,x.2.2.1) :: (9,x.2.2.2.1) :: (10,.int .i64 x.2.1) :: E0) (fun x => St w [] x.2.2.2.2 []) (fun x => x.1 ≤ 32 * A.length ∧ x.2.1 = (x.1 : Int) - 1 ∧ Ws x.2.2.2.2 x.2.2.1 (natW (val A / 2 ^ x.1 / val B)) ∧ Ws x.2.2.2.2 x.2.2.2.1 (natW (val A / 2 ^ x.1 % val B)) ∧ Ext w.heap.size I x.2.2.2.2 ∧ I1.Le x.2.2.2.2) ((32 * A.length,32 * (A.length : Int) - 1,.slice none 0 0,.slice none 0 0,I1)) (sC rfl (sC rfl (sC rfl (sC rfl (sC rfl sN))))) (fun _ h => h) (⟨Nat.le_refl _,by simp only; omega,by simp only; rw [Nat.div_eq_of_lt hA,Nat.zero_div,yg]; exact Ws.nil _,by simp only; rw [Nat.div_eq_of_lt hA,Nat.zero_mod,yg]; exact Ws.nil _,hx1,Hp.Le.refl _⟩) ?_;rintro ⟨j,z,uq,ur,I2⟩ ⟨hj,hz,hq,hr,hx2,hle⟩
 try dsimp only
 simp only at hj hz hq hr hx2 hle; subst hz
 refine cS (sR ?_);iterate 2 refine oV ?_
 refine nT ?_;refine cC rfl (fun h2 => ?_) (fun h2 => ?_)
 ·
  have f2 := h2;try simp only [bl] at f2
  obtain ⟨i,rfl⟩ : ∃ i,j = i + 1 := ⟨j - 1,by omega⟩
  have hql : (natW (val A / 2 ^ (i + 1) / val B)).length ≤ 35184372088400 := Nat.le_trans (jl (Nat.le_trans (Nat.div_le_self _ _) (Nat.div_le_self _ _))) (Nat.le_trans hal hs)
  have hrl : (natW (val A / 2 ^ (i + 1) % val B)).length ≤ 35184372088400 := Nat.le_trans (jl (Nat.le_trans (Nat.mod_le _ _) (Nat.div_le_self _ _))) (Nat.le_trans hal hs)
  have hbs := q3d (a := val A) (i := i) h0 rfl rfl
  have e1 : ((i + 1 : Nat) : Int) - 1 = (i : Nat) := by omega
  rw [e1]
  have hqv : val (natW (val A / 2 ^ (i + 1) / val B)) * 2 + 0 = 2 * (val A / 2 ^ (i + 1) / val B) := by rw [qk]; omega
  have hrv : val (natW (val A / 2 ^ (i + 1) % val B)) * 2 + val A / 2 ^ i % 2 = 2 * (val A / 2 ^ (i + 1) % val B) + val A / 2 ^ i % 2 := by rw [qk]; omega
  refine cK (tC (cS (cB (sR ?_))));refine oV ?_;refine oI call177 rfl (qgj _ _ 2 0 hq (by omega) (by decide) (by decide)) ?_;rintro u3 I3 hx3 hs3;refine oV ?_;refine nS ?_;iterate 3 refine oV ?_
  refine oQ call178 rfl (q3e _ A i (ha.le (hx2.le.trans hx3.le)) (by omega) (by omega)) ?_;refine oI call177 rfl (qgj _ _ 2 (val A / 2 ^ i % 2) (hr.le hx3.le) (by omega) (by decide) (by omega)) ?_;rintro u4 I4 hx4 hs4;refine oV ?_;refine oN (tC (cS ?_))
  rw [hqv] at hs3
  rw [hrv] at hs4
  have hl3 := qsg (n := val A / 2 ^ (i + 1) / val B) (b := 0) hql (by rw [yg]; exact Nat.zero_le _)
  rw [Nat.add_zero] at hl3
  have hl4 := qsg (n := val A / 2 ^ (i + 1) % val B) (b := val A / 2 ^ i % 2) hrl (Nat.le_trans (q3f (by omega)) (by decide))
  refine cR ?_;iterate 2 refine oV ?_
  refine oQ call179 rfl (qe8 _ _ _ _ hs4 (hs1.le (hle.trans (hx3.le.trans hx4.le))) (by omega) (by omega)) ?_;refine oV ?_;refine nT ?_;refine cC rfl (fun h3 => ?_) (fun h3 => ?_)
  ·
   have f3 := h3;try simp only [bl] at f3
   rw [qk,qk] at f3
   have hge : val B ≤ 2 * (val A / 2 ^ (i + 1) % val B) + val A / 2 ^ i % 2 := by unfold cmpZ at f3; split at f3 <;> (try split at f3) <;> omega
   obtain ⟨hb1,hb2⟩ := hbs.1 hge
   refine sR ?_;iterate 2 refine oV ?_
   refine oI call180 rfl (ql8 _ _ _ _ hs4 (hs1.le (hle.trans (hx3.le.trans hx4.le))) (by omega) (by omega) (by rw [qk,qk]; exact hge)) ?_;rintro _ I5 hx5 ⟨u5,rfl,hs5⟩;iterate 4 refine oV ?_
   refine nR ?_;refine oV ?_;refine oI call177 rfl (qgj _ _ 1 1 (hs3.le (hx4.le.trans hx5.le)) (by omega) (by decide) (by decide)) ?_;rintro u6 I6 hx6 hs6;refine oV ?_;refine oN (qg (tC (cR ?_)));refine oV ?_
   (refine vp trivial rfl rfl rfl ?_ ?_; (omega))
   refine oV ?_;refine oN ?_
   (rw [qk, qk, hb2] at hs5
    rw [qk,Nat.mul_one,hb1] at hs6
    exact ql (i,(i : Int) - 1,u6,u5,I6) (sC rfl (sC rfl (sC rfl (sC rfl (sC rfl sN))))) (fun _ h => h) (by show i < i + 1; omega) ⟨by show i ≤ _; omega,rfl,hs6,hs5.le hx6.le,hx2.trans (hx3.trans (hx4.trans (hx5.trans hx6 (Nat.le_refl _)) (Nat.le_refl _)) (Nat.le_refl _)) (Nat.le_refl _),hle.trans (hx3.le.trans (hx4.le.trans (hx5.le.trans hx6.le)))⟩)
  have f3 := h3;try simp only [bl] at f3
  rw [qk,qk] at f3
  have hge : ¬ val B ≤ 2 * (val A / 2 ^ (i + 1) % val B) + val A / 2 ^ i % 2 := by unfold cmpZ at f3; split at f3 <;> (try split at f3) <;> omega
  obtain ⟨hb1,hb2⟩ := hbs.2 hge
  refine cK (qg (tC (cR ?_)));refine oV ?_
  (refine vp trivial rfl rfl rfl ?_ ?_; (omega))
  refine oV ?_;refine oN ?_
  (rw [hb2] at hs4
   rw [hb1] at hs3
   exact ql (i,(i : Int) - 1,u3,u4,I4) (sC rfl (sC rfl (sC rfl (sC rfl (sC rfl sN))))) (fun _ h => h) (by show i < i + 1; omega) ⟨by show i ≤ _; omega,rfl,hs3.le hx4.le,hs4,hx2.trans (hx3.trans hx4 (Nat.le_refl _)) (Nat.le_refl _),hle.trans (hx3.le.trans hx4.le)⟩)
 have f2 := h2;try simp only [bl] at f2
 refine qp (qc (qc (qo rfl (tC (sR ?_)))));iterate 5 refine oV ?_
 refine nE ?_;refine ret3 rfl rfl rfl rfl ?_
 have hj0 : j = 0 := by omega
 subst hj0
 rw [Nat.pow_zero,Nat.div_one] at hq hr
 exact leaf hx2 (List.nil_sublist _) ⟨uq,ur,rfl,hq,hr⟩
theorem qsh (va : Value) (A : List Nat) (d : Nat) {I : Hp} (ha : Ws I va A) (hs : A.length ≤ 35184372088400) (hd0 : 0 < d) (hd : d < 4294967296) : Fun prog 116 [va,.int .u32 (d : Int)] I [] (fun v I' _ => ∃ u,v = .tuple #[u,.int .u32 ((val A % d : Nat) : Int),.bool true] ∧ Ws I' u (natW (val A / d))) := by
 have hv1 : val [d] = d := by rw [zw,qd4]; omega
 intro w hw
 refine qz _ func116 rfl ntmps116 rfl ?_ hw;refine sR ?_;iterate 3 refine oV ?_
 refine nS ?_;iterate 2 refine oV ?_
 refine oB underlying33 sizeOf134 zeroValue134 fun b13 => ?_;refine qby [d] .here (zc hd zj) (by unfold maxLen; simp) (fun I1 hx1 hs1 => ?_);refine oI call148 rfl (qgk _ _ A [d] (ha.le hx1.le) hs1 hs (by simp) (by rw [hv1]; exact hd0)) ?_;rintro _ I2 hx2 ⟨u1,u2,rfl,hq,hr⟩;iterate 7 refine oV ?_
 refine oN (tC (cS (cS ?_)))
 rw [hv1] at hq hr
 have hrd : val A % d < d := Nat.mod_lt _ hd0
 have hrl := qa1 (n := val A % d) (k := 1) (by rw [Nat.pow_one]; omega)
 refine cR ?_;refine oV ?_;refine ve trivial rfl underlying33 rfl (hr) ?_;refine oV ?_;refine nT ?_;refine cC rfl (fun h1 => ?_) (fun h1 => ?_)
 ·
  have f1 := h1;try simp only [bl] at f1
  refine sR ?_;iterate 5 refine oV ?_
  refine nF ?_;refine ret3 rfl rfl rfl rfl ?_
  have h0 : val A % d = 0 := jk.1 (by omega)
  refine leaf (hx1.trans hx2 (Nat.le_refl _)) (List.nil_sublist _) ⟨u1,?_,hq⟩; rw [h0]; rfl
 have f1 := h1;try simp only [bl] at f1
 have h0 : val A % d ≠ 0 := fun e => f1 (by rw [e,yg]; rfl)
 have hdg : dg (natW (val A % d)) 0 = val A % d := by rw [qbi h0]; show (val A % d) % 4294967296 = _; exact Nat.mod_eq_of_lt (by omega)
 refine cK (tC (cS ?_));refine jf (by kernel_rfl) (by kernel_rfl) (fun _ h => h.drawn) ?_;iterate 2 refine oV ?_
 refine yu trivial rfl underlying33 sizeOf134 rfl (hr) rfl (by omega) ?_;refine q7 trivial rfl isAgg134 rfl (hr.cellI (k := 0) rfl (by omega)) ?_;iterate 4 refine oV ?_
 refine nE ?_;refine ret3 rfl rfl rfl rfl ?_;refine leaf (hx1.trans hx2 (Nat.le_refl _)) (List.nil_sublist _) ⟨u1,?_,hq⟩; rw [hdg]; rfl
theorem qsi {n : Nat} (h : n ≠ 0) : dg (natW n) 0 % 2 = n % 2 := by
 rw [qbi h]; show (n % 4294967296) % 2 = n % 2; omega
structure qdv (n x k : Nat) : Prop where
 eq : n = 2 ^ k * x
 odd : x % 2 = 1
theorem qe9 (va : Value) (n : Nat) {I : Hp} (ha : Ws I va (natW n)) (hs : (natW n).length ≤ 35184372088400) (h0 : 0 < n) : Fun prog 201 [va] I [] (fun v I' _ => ∃ u x k,v = .tuple #[u,.int .i64 (k : Nat)] ∧ Ws I' u (natW x) ∧ qdv n x k) := by
 intro w hw
 refine qn _ func201 rfl ntmps201 rfl ?_ hw;refine sR ?_;iterate 2 refine oV ?_
 refine nS ?_;refine oV ?_;refine oN (tC (cS (cB ?_)));refine qt (ι := Nat × Nat × Value × Hp) [] .nil (fun x => x.1) (fun x E0 => (0,x.2.2.1) :: (4,.int .i64 (x.2.1 : Nat)) :: E0) (fun x => St w [] x.2.2.2 []) (fun x => 0 < x.1 ∧ n = 2 ^ x.2.1 * x.1 ∧ Ws x.2.2.2 x.2.2.1 (natW x.1) ∧ (natW x.1).length ≤ 35184372088400 ∧ Ext w.heap.size I x.2.2.2) ((n,0,va,I)) (sC rfl (sC rfl sN)) (fun _ h => h) (⟨h0,by simp,ha,hs,Ext.refl _ _⟩) ?_;rintro ⟨m,k,u,I1⟩ ⟨hm0,he,hu,hl,hx1⟩
 try dsimp only
 simp only at hm0 he hu hl hx1; have hne : (natW m).length ≠ 0 := fun e => by have := jk.1 e; omega
 refine cS (sR ?_);refine oV ?_;refine ve trivial rfl underlying33 rfl (hu) ?_;refine oV ?_;refine' oY (fun hb8 => ?_) ?_;rotate_left
 ·
  have fb8 := hb8
  try simp only [bl] at fb8
  refine gV hb8 ?_;refine yu (wS rfl rfl hb8) rfl underlying33 sizeOf134 rfl (hu) rfl (by omega) ?_;refine q7 (wS rfl rfl hb8) rfl isAgg134 rfl (hu.cellI (k := 0) rfl (by omega)) ?_;refine qca (wS rfl rfl hb8) rfl rfl rfl (by omega) ?_;refine gV hb8 ?_;refine oN ?_;exact qa rfl
 refine nT ?_;refine cC rfl (fun h1 => ?_) (fun h1 => ?_)
 ·
  have f1 := h1;try simp only [bl] at f1
  have hev := qsi (n := m) (by omega)
  have hk64 : k < 32 * (natW n).length := by
    have h1 := jj (qak n)
    rw [qk,qcf] at h1
    have h2 : 2 ^ k ≤ n := by rw [he]; exact Nat.le_mul_of_pos_right _ hm0
    exact (Nat.pow_lt_pow_iff_right (by decide)).1 (Nat.lt_of_le_of_lt h2 h1)
  have hmm : m % 2 = 0 := by omega
  refine cK (tC (cB (sR ?_)));refine oV ?_;refine oI call116 rfl (qsh _ _ 2 hu hl (by decide) (by decide)) ?_;rintro _ I2 hx2 ⟨u2,rfl,hs2⟩;iterate 5 refine oV ?_
  refine nR ?_;refine oV ?_
  (refine qh trivial rfl rfl rfl ?_ ?_; (omega))
  refine oV ?_;refine oN (qg ?_)
  rw [qk] at hs2
  exact ql (m / 2,k + 1,u2,I2) (sC rfl (sC rfl sN)) (fun _ h => h) (by show m / 2 < m; omega) ⟨by show 0 < m / 2; omega,by show n = 2 ^ (k + 1) * (m / 2); rw [he,Nat.pow_succ,Nat.mul_assoc]; congr 1; omega,hs2,Nat.le_trans (jl (Nat.div_le_self _ _)) hl,hx1.trans hx2 (Nat.le_refl _)⟩
 have f1 := h1;try simp only [bl] at f1
 refine qp (qc (qc (qo rfl (tC (sR ?_)))));iterate 4 refine oV ?_
 refine nE ?_;refine ret2 rfl rfl rfl ?_
 have hev := qsi (n := m) (by omega)
 exact leaf hx1 (List.nil_sublist _) ⟨u,m,k,rfl,hu,he,by omega⟩
theorem qdv.pos {n x k : Nat} (h : qdv n x k) : 0 < x := by have := h.odd; omega
theorem qdv.le {n x k : Nat} (h : qdv n x k) : x ≤ n := by rw [h.eq]; exact Nat.le_mul_of_pos_left _ (Nat.pow_pos (by decide))
theorem qdv.pow_lt {n x k L : Nat} (h : qdv n x k) (hL : (natW n).length ≤ L) : k < 32 * L := by
 have h1 := jj (qak n)
 rw [qk,qcf] at h1
 have h2 : 2 ^ k ≤ n := by rw [h.eq]; exact Nat.le_mul_of_pos_right _ h.pos
 have h3 := (Nat.pow_lt_pow_iff_right (by decide)).1 (Nat.lt_of_le_of_lt h2 h1)
 omega
theorem q3g (va vb : Value) (A B : List Nat) {I : Hp} (ha : Ws I va A) (hb : Ws I vb B) (hs : A.length ≤ 3000) (hs2 : B.length ≤ 3000) : Fun prog 174 [va,vb] I [] (fun v I' _ => Ws I' v (natW (Nat.gcd (val A) (val B)))) := by
 have hal : (natW (val A)).length ≤ 3000 := Nat.le_trans (zz ha.wds) hs
 have hbl : (natW (val B)).length ≤ 3000 := Nat.le_trans (zz hb.wds) hs2
 intro w hw
 refine qz _ func174 rfl ntmps174 rfl ?_ hw;refine sR ?_;refine oV ?_;refine nS ?_;refine oV ?_;refine oI call115 rfl (qax _ _ ha (by omega)) ?_;rintro u1 I1 hx1 hs1;refine oV ?_;refine nS ?_;refine oV ?_;refine oI call115 rfl (qax _ _ (hb.le hx1.le) (by omega)) ?_;rintro u2 I2 hx2 hs2';refine oV ?_;refine nU ?_;refine oV ?_;refine ve trivial rfl underlying33 rfl (hs1.le hx2.le) ?_;refine oV ?_;refine nT ?_;refine cC rfl (fun h1 => ?_) (fun h1 => ?_)
 ·
  have f1 := h1;try simp only [bl] at f1
  refine sR ?_;iterate 2 refine oV ?_
  refine nF ?_;refine ret1 rfl rfl ?_
  have h0 : val A = 0 := jk.1 (by omega)
  refine leaf (hx1.trans hx2 (Nat.le_refl _)) (List.nil_sublist _) ?_; rw [h0,Nat.gcd_zero_left]; exact hs2'
 have f1 := h1;try simp only [bl] at f1
 refine cK (tC (cS (sR ?_)));refine oV ?_;refine ve trivial rfl underlying33 rfl (hs2') ?_;refine oV ?_;refine nT ?_;refine cC rfl (fun h2 => ?_) (fun h2 => ?_)
 ·
  have f2 := h2;try simp only [bl] at f2
  refine sR ?_;iterate 2 refine oV ?_
  refine nF ?_;refine ret1 rfl rfl ?_
  have h0 : val B = 0 := jk.1 (by omega)
  refine leaf (hx1.trans hx2 (Nat.le_refl _)) (List.nil_sublist _) ?_; rw [h0,Nat.gcd_zero_right]; exact hs1.le hx2.le
 have f2 := h2;try simp only [bl] at f2
 have hA0 : 0 < val A := Nat.pos_of_ne_zero fun e => f1 (by rw [e,yg]; rfl)
 have hB0 : 0 < val B := Nat.pos_of_ne_zero fun e => f2 (by rw [e,yg]; rfl)
 refine kS ?_;refine oV ?_;refine oI call201 rfl (qe9 _ _ (hs1.le hx2.le) (by omega) hA0) ?_;rintro _ I3 hx3 ⟨u3,x,n,rfl,hs3,ho3⟩;iterate 5 refine oV ?_
 refine oN (tC (cS ?_))
 have hn := ho3.pow_lt hal
 refine cR ?_;refine oV ?_;refine oI call201 rfl (qe9 _ _ (hs2'.le hx3.le) (by omega) hB0) ?_;rintro _ I4 hx4 ⟨u4,y,k,rfl,hs4,ho4⟩;iterate 5 refine oV ?_
 refine oN (tC (cS (cB ?_)));refine qt (ι := Nat × Nat × Value × Value × Hp) [7,8] (.cons rfl (.cons rfl .nil)) (fun t => t.1 + t.2.1) (fun t E0 => (5,t.2.2.1) :: (6,t.2.2.2.1) :: E0) (fun t => St w [] t.2.2.2.2 []) (fun t => t.1 % 2 = 1 ∧ t.2.1 % 2 = 1 ∧ Nat.gcd t.1 t.2.1 = Nat.gcd x y ∧ Ws t.2.2.2.2 t.2.2.1 (natW t.1) ∧ Ws t.2.2.2.2 t.2.2.2.1 (natW t.2.1) ∧ (natW t.1).length ≤ 3000 ∧ (natW t.2.1).length ≤ 3000 ∧ Ext w.heap.size I t.2.2.2.2) ((x,y,u3,u4,I4)) (sC rfl (sC rfl (sC rfl (sC rfl sN)))) (fun _ h => h) (⟨ho3.odd,ho4.odd,rfl,hs3.le hx4.le,hs4,Nat.le_trans (jl ho3.le) hal,Nat.le_trans (jl ho4.le) hbl,hx1.trans (hx2.trans (hx3.trans hx4 (Nat.le_refl _)) (Nat.le_refl _)) (Nat.le_refl _)⟩) ?_;rintro ⟨a,b,ua,ub,I5⟩ ⟨hao,hbo,hg,hua,hub,hla,hlb,hx5⟩
 try dsimp only
 simp only at hao hbo hg hua hub hla hlb hx5
 refine cS (sR ?_);iterate 2 refine oV ?_
 refine oQ call179 rfl (qe8 _ _ _ _ hua hub (by omega) (by omega)) ?_;refine oV ?_;refine nT ?_;refine cC rfl (fun h3 => ?_) (fun h3 => ?_)
 ·
  have f3 := h3;try simp only [bl] at f3
  rw [qk,qk] at f3
  have hab : a ≠ b := fun e => f3 (by rw [e]; exact qcn _)
  refine cK (tC (cB ?_));refine zh (ι := Nat × Nat × Value × Value) [7,8] (.cons rfl (.cons rfl .nil)) (fun t E0 => (5,t.2.2.1) :: (6,t.2.2.2) :: E0) (fun t => St w [] I5 []) (fun t => t.1 % 2 = 1 ∧ t.2.1 % 2 = 1 ∧ Nat.gcd t.1 t.2.1 = Nat.gcd x y ∧ Ws I5 t.2.2.1 (natW t.1) ∧ Ws I5 t.2.2.2 (natW t.2.1) ∧ (natW t.1).length ≤ 3000 ∧ (natW t.2.1).length ≤ 3000 ∧ t.2.1 < t.1 ∧ t.1 + t.2.1 = a + b) ?_ ?_
  ·
   refine sR ?_;iterate 2 refine oV ?_
   refine oQ call179 rfl (qe8 _ _ _ _ hua hub (by omega) (by omega)) ?_;refine oV ?_;refine nT ?_;refine cC rfl (fun h4 => ?_) (fun h4 => ?_)
   ·
    have f4 := h4;try simp only [bl] at f4
    rw [qk,qk] at f4
    have hlt : a < b := by unfold cmpZ at f4; split at f4 <;> (try split at f4) <;> omega
    refine sR ?_;iterate 2 refine oV ?_
    refine nS ?_;iterate 2 refine oV ?_
    refine nR ?_;iterate 2 refine oV ?_
    refine oN ?_
    (exact meet (b,a,ub,ua) (sC rfl (sC rfl (sC rfl (sC rfl sN)))) (fun _ h => h) ⟨hbo,hao,by rw [Nat.gcd_comm]; exact hg,hub,hua,hlb,hla,hlt,by show b + a = a + b; omega⟩)
   have f4 := h4;try simp only [bl] at f4
   rw [qk,qk] at f4
   have hlt : ¬ a < b := fun h => by rw [qcm (by omega)] at f4; omega
   refine cK ?_
   (exact meet (a,b,ua,ub) (sC rfl (sC rfl (sC rfl (sC rfl sN)))) (fun _ h => h) ⟨hao,hbo,hg,hua,hub,hla,hlb,by show b < a; omega,rfl⟩)
  rintro ⟨c,d,uc,ud⟩ ⟨hco,hdo,hg2,huc,hud,hlc,hld,hdc,hsum⟩
  try dsimp only
  refine cS ?_
  simp only at hco hdo hg2 huc hud hlc hld hdc hsum
  refine cR ?_;iterate 2 refine oV ?_
  refine oI call180 rfl (ql8 _ _ _ _ huc hud (by omega) (by omega) (by rw [qk,qk]; omega)) ?_;rintro _ I6 hx6 ⟨u6,rfl,hs6⟩;iterate 4 refine oV ?_
  refine nT ?_
  rw [qk,qk] at hs6
  have hl6 : (natW (c - d)).length ≤ 3000 := Nat.le_trans (jl (Nat.sub_le _ _)) hlc
  refine cR ?_;refine oV ?_;refine oI call201 rfl (qe9 _ _ hs6 (by omega) (by omega)) ?_;rintro _ I7 hx7 ⟨u7,z,p,rfl,hs7,ho7⟩;iterate 4 refine oV ?_
  refine oN (qg ?_);exact ql (z,d,u7,ud,I7) (sC rfl (sC rfl (sC rfl (sC rfl sN)))) (fun _ h => h) (by show z + d < a + b; have := ho7.le; omega) ⟨ho7.odd,hdo,by show Nat.gcd z d = _; rw [qn3 hdo (by omega) ho7.eq]; exact hg2,hs7,hud.le (hx6.le.trans hx7.le),Nat.le_trans (jl ho7.le) hl6,hld,hx5.trans (hx6.trans hx7 (Nat.le_refl _)) (Nat.le_refl _)⟩
 have f3 := h3;try simp only [bl] at f3
 rw [qk,qk] at f3
 have hab : a = b := by have := qft f3; omega
 refine qp (qc (qc (qo rfl (tC (sR ?_)))));iterate 3 refine oV ?_
 refine qg2 trivial rfl rfl rfl ?_
 rw [show min (n : Int) (k : Int) = ((min n k : Nat) : Int) by omega]
 refine oI call202 rfl (q29 _ _ (min n k) hua (by omega) (by omega)) ?_;rintro u8 I8 hx8 hs8;refine oV ?_;refine nE ?_;refine ret1 rfl rfl ?_;refine leaf (hx5.trans hx8 (Nat.le_refl _)) (List.nil_sublist _) ?_
 rw [qk] at hs8
 rw [ho3.eq,ho4.eq,qvw ho3.odd ho4.odd,← hg,← hab,Nat.gcd_self]
 exact hs8
theorem q3h (va vb : Value) (A B : List Nat) {I : Hp} (ha : Ws I va A) (hb : Ws I vb B) (hs : A.length ≤ 3000) (hs2 : B.length ≤ 3000) : Fun prog 142 [va,vb] I [] (fun v I' _ => ∃ u1 u2,v = .tuple #[u1,u2,.bool (decide (val B ≠ 0))] ∧ (val B ≠ 0 → Ws I' u1 (natW (val A / Nat.gcd (val A) (val B))) ∧ Ws I' u2 (natW (val B / Nat.gcd (val A) (val B))))) := by
 have hbl : (natW (val B)).length ≤ 3000 := Nat.le_trans (zz hb.wds) hs2
 intro w hw
 refine qz _ func142 rfl ntmps142 rfl ?_ hw;refine sR ?_;iterate 3 refine oV ?_
 refine nS ?_;refine oV ?_;refine oI call115 rfl (qax _ _ hb (by omega)) ?_;rintro u1 I1 hx1 hs1;refine oV ?_;refine nU ?_;refine oV ?_;refine ve trivial rfl underlying33 rfl (hs1) ?_;refine oV ?_;refine nT ?_;refine cC rfl (fun h1 => ?_) (fun h1 => ?_)
 ·
  have f1 := h1;try simp only [bl] at f1
  refine sR ?_;iterate 3 refine oV ?_
  refine nF ?_;refine ret3 rfl rfl rfl rfl ?_
  have h0 : val B = 0 := jk.1 (by omega)
  refine leaf hx1 (List.nil_sublist _) ⟨.slice none 0 0,.slice none 0 0,?_,fun h => absurd h0 h⟩; rw [decide_eq_false (not_not_intro h0)]
 have f1 := h1;try simp only [bl] at f1
 have h0 : 0 < val B := Nat.pos_of_ne_zero fun e => f1 (by rw [e,yg]; rfl)
 have hg : 0 < Nat.gcd (val A) (val B) := Nat.gcd_pos_of_pos_right _ h0
 have hgl : (natW (Nat.gcd (val A) (val B))).length ≤ 3000 := Nat.le_trans (jl (Nat.gcd_le_right _ h0)) hbl
 refine kS ?_;iterate 2 refine oV ?_
 refine oI call174 rfl (q3g _ _ _ _ (ha.le hx1.le) hs1 hs (by omega)) ?_;rintro u2 I2 hx2 hs2';refine oV ?_;refine oN (tC (cS ?_))
 rw [qk] at hs2'
 refine cR ?_;iterate 2 refine oV ?_
 refine oI call148 rfl (qgk _ _ _ _ (ha.le (hx1.le.trans hx2.le)) hs2' (by omega) (by omega) (by rw [qk]; exact hg)) ?_;rintro _ I3 hx3 ⟨u3,u4,rfl,hq3,hr3⟩;iterate 7 refine oV ?_
 refine nS ?_;iterate 2 refine oV ?_
 refine oI call148 rfl (qgk _ _ _ _ (hs1.le (hx2.le.trans hx3.le)) (hs2'.le hx3.le) (by omega) (by omega) (by rw [qk]; exact hg)) ?_;rintro _ I4 hx4 ⟨u5,u6,rfl,hq5,hr5⟩;iterate 5 refine oV ?_
 refine nS ?_;iterate 5 refine oV ?_
 refine nE ?_;refine ret3 rfl rfl rfl rfl ?_
 rw [qk] at hq3
 rw [qk,qk] at hq5
 refine leaf (hx1.trans (hx2.trans (hx3.trans hx4 (Nat.le_refl _)) (Nat.le_refl _)) (Nat.le_refl _)) (List.nil_sublist _) ⟨u3,u5,?_,fun _ => ⟨hq3.le hx4.le,hq5⟩⟩; rw [decide_eq_true (by omega)]; rfl
theorem q3i (a b : List Int) : js a ++ js b = js (a ++ b) := by
 unfold js; rw [List.map_append]; apply ByteArray.ext; simp
theorem q3j : decS 0 = ⟨#[48]⟩ := by
 unfold decS decL; rw [digs]; rfl
theorem qii (va : Value) (A : List Nat) {I : Hp} (ha : Ws I va A) (hs : A.length ≤ 35184372088400) : Fun prog 78 [va] I [] (fun v _ _ => v = .string (decS (val A))) := by
 have hdl := qdi ha.wds hs
 have hal : (natW (val A)).length ≤ 35184372088400 := Nat.le_trans (zz ha.wds) hs
 intro w hw
 refine qn _ func78 rfl ntmps78 rfl ?_ hw;refine sR ?_;refine oV ?_;refine nS ?_;refine oV ?_;refine oI call115 rfl (qax _ _ ha (by omega)) ?_;rintro u1 I1 hx1 hs1;refine oV ?_;refine nU ?_;refine oV ?_;refine ve trivial rfl underlying33 rfl (hs1) ?_;refine oV ?_;refine nT ?_;refine cC rfl (fun h1 => ?_) (fun h1 => ?_)
 ·
  have f1 := h1;try simp only [bl] at f1
  refine sR ?_;refine oV ?_;refine nF ?_;refine ret1 rfl rfl ?_
  have h0 : val A = 0 := jk.1 (by omega)
  refine leaf hx1 (List.nil_sublist _) (congrArg Value.string ?_); rw [h0,q3j]
 have f1 := h1;try simp only [bl] at f1
 have h0 : 0 < val A := Nat.pos_of_ne_zero fun e => f1 (by rw [e,yg]; rfl)
 refine kS ?_;refine oV ?_;refine oN (tC (cS (cB ?_)));refine qt (ι := Nat × List Nat × Value × Hp) [] .nil (fun x => x.1) (fun x E0 => (3,x.2.2.1) :: (4,.string (js (x.2.1.reverse.map Int.ofNat))) :: E0) (fun x => St w [] x.2.2.2 []) (fun x => Ws x.2.2.2 x.2.2.1 (natW x.1) ∧ (natW x.1).length ≤ 35184372088400 ∧ x.2.1 ++ qam x.1 x.2.1 = digs (val A) ∧ (x.1 = 0 → x.2.1 ≠ []) ∧ Ext w.heap.size I x.2.2.2) ((val A,[],u1,I1)) (sC rfl (sC rfl sN)) (fun _ h => h) (⟨hs1,hal,by simp [qam],fun h => absurd h (by show val A ≠ 0; omega),hx1⟩) ?_;rintro ⟨m,L,u,I2⟩ ⟨hu,hl,hd,hne,hx2⟩
 try dsimp only
 simp only at hu hl hd hne hx2; have hol : L.length ≤ (digs (val A)).length := by rw [← hd,List.length_append]; omega
 refine cS (sR ?_);refine oV ?_;refine ve trivial rfl underlying33 rfl (hu) ?_;refine oV ?_;refine nT ?_;refine cC rfl (fun h2 => ?_) (fun h2 => ?_)
 ·
  have f2 := h2;try simp only [bl] at f2
  have hm0 : 0 < m := Nat.pos_of_ne_zero fun e => by rw [e,yg] at f2; simp at f2
  rw [qo5 L (.inl hm0)] at hd
  have hsz : (js (L.reverse.map Int.ofNat)).size = L.length := by rw [qi5]; simp
  refine cK (tC (cB (sR ?_)));refine oV ?_;refine oI call116 rfl (qsh _ _ 10 hu hl (by decide) (by decide)) ?_;rintro _ I3 hx3 ⟨u3,rfl,hs3⟩;iterate 7 refine oV ?_
  refine nS ?_;refine oV ?_;refine qc4 trivial rfl rfl rfl (by rw [IntWalk.u32_in _ (by omega)]) ?_;refine ya trivial rfl underlying134 underlying5 rfl (by rw [IntWalk.u8_in _ (by omega)]) ?_;refine oB underlying64 sizeOf5 zeroValue5 fun b25 => ?_;refine qu5 (ns := [(48 : Int) + ((val (natW m) % 10 : Nat) : Int)]) trivial rfl underlying64 underlying5 underlying9 rfl (by repeat constructor) rfl ?_;refine oV ?_;refine qni trivial rfl rfl rfl (by rw [qi5,hsz]; simp only [List.length_cons,List.length_nil]; omega) ?_;refine oV ?_;refine nR ?_;iterate 2 refine oV ?_
  refine oN (qg ?_)
  rw [qk] at hs3
  have e1 : js [(48 : Int) + ((val (natW m) % 10 : Nat) : Int)] ++ js (L.reverse.map Int.ofNat) = js ((L ++ [48 + m % 10]).reverse.map Int.ofNat) := by
    rw [q3i,qk,List.reverse_append]; rfl
  rw [e1]
  exact ql (m / 10,L ++ [48 + m % 10],u3,I3) (sC rfl (sC rfl sN)) (fun _ h => h.drop (List.nil_sublist _)) (by show m / 10 < m; omega) ⟨hs3,Nat.le_trans (jl (Nat.div_le_self _ _)) hl,by show (L ++ [48 + m % 10]) ++ qam (m / 10) (L ++ [48 + m % 10]) = _; rw [← hd]; simp,fun _ => by simp,hx2.trans hx3 (Nat.le_refl _)⟩
 have f2 := h2;try simp only [bl] at f2
 have hm0 : m = 0 := jk.1 (by omega)
 refine qp (qc (qc (qo rfl (tC (sR ?_)))));iterate 2 refine oV ?_
 refine nE ?_;refine ret1 rfl rfl ?_;refine leaf hx2 (List.nil_sublist _) (congrArg Value.string ?_)
 unfold qam at hd
 rw [if_pos ⟨hm0,hne hm0⟩,List.append_nil] at hd
 unfold decS decL
 rw [← hd]
theorem q3k (n : Int) {I : Hp} (hn : -1000000 ≤ n ∧ n ≤ 1000000) : Fun prog 107 [.int .i64 n] I [] (fun v I' _ => IntV I' v n) := by
 intro w hw
 refine qn _ func107 rfl ntmps107 rfl ?_ hw;refine sR ?_;refine qq trivial rfl zeroValue132 rfl (fun b2 => ?_);refine nU ?_;iterate 2 refine oV ?_
 refine nT ?_;refine cC rfl (fun h1 => ?_) (fun h1 => ?_)
 ·
  have f1 := h1;try simp only [bl] at f1
  refine sR ?_;refine oV ?_;refine ya trivial rfl underlying3 underlying136 rfl (by rw [IntWalk.u64_in _ (by omega)]) ?_
  rw [show n = ((n.natAbs : Nat) : Int) by omega]
  refine oI call86 rfl (qsf n.natAbs (by omega)) ?_;rintro u1 I1 hx1 hs1;refine qw trivial rfl (qdc) rfl (.cons rfl (by exact (Ws.cells1 (by assumption)).1) (by rfl) (by repeat constructor) .nil) ?_;refine oS sizeOf132 ?_;refine nF ?_;refine retR rfl (.agg isAgg132 sizeOf132 rfl (by repeat constructor) rfl .nil) ?_;refine leaf hx1 (List.nil_sublist _) ⟨u1,?_,hs1⟩; rw [decide_eq_false (by omega)]; rfl
 have f1 := h1;try simp only [bl] at f1
 refine kS ?_;refine oV ?_;refine qa0 trivial rfl underlying3 underlying136 rfl ?_;refine oV ?_;refine oV ?_;refine oN (tC (cS ?_))
 rw [show IntKind.u64.wrap (0 - IntKind.u64.wrap n) = ((n.natAbs : Nat) : Int) by simp only [IntKind.wrap_u64]; omega]
 refine cR ?_;refine oV ?_;refine oI call86 rfl (qsf n.natAbs (by omega)) ?_;rintro u2 I2 hx2 hs2;refine qw trivial rfl (qdc) rfl (.cons rfl rfl rfl (by repeat constructor) (.cons rfl (by exact (Ws.cells1 (by assumption)).1) (by rfl) (by repeat constructor) .nil)) ?_;refine oS sizeOf132 ?_;refine nE ?_;refine retR rfl (.agg isAgg132 sizeOf132 rfl (by repeat constructor) rfl .nil) ?_;refine leaf hx2 (List.nil_sublist _) ⟨u2,?_,hs2⟩; rw [decide_eq_true (by omega)]; rfl
end Go.Proofs.YtfcmhcaggdakbaaGreatDoor
