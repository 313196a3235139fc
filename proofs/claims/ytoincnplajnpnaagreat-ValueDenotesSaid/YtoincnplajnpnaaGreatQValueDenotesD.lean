/-
  ValueDenotes, part 4: the texts Law15, Made14, Open15, SignPlain, SignPlain2, LexPlain, LexPlain3, Tree, Tree2, Tree3, Tree4, LexPlain2, Tree5, Tree6, Tree7, Tree8, Any, Arr2, Shelf, Sign, Right, Right2, Right3, Lex, Lex3, Lex4, Lex5, Read, Read2, Read3, Atoi, Parse, Read4, Read5, Read6, Read7, Read8, Read9, Read10, Parse11, Tree10, LexCat, LexCat2, Show1, Show2, Show3, Show5, Pcs, Print, Node as one.
-/
import Derived.Test.YtoincnplajnpnaaGreatQValueDenotesC
import Derived.Lib.DecodeN
import Derived.Lib.DecodeNEq
import Derived.Lib.Bytealg
import Derived.Lib.RuneCountTail
import Derived.Lib.CutLaws
import Derived.Shelf.Small.Bits
import Derived.Shelf.Small.Strs
import Derived.Shelf.Small.Wraps
import Derived.Shelf.Strings.Search1
import Derived.Ground.Names2Prog
import Derived.Shelf.Slices.SearchI
import Derived.Test.YtoincnplajnpnaaGreatProg
import Derived.Shelf.Unicode.DecodeSlow
import Derived.Lib.AtoiAllCases
open Go.Proofs.Tryz
set_option linter.unusedVariables false
set_option linter.unusedSimpArgs false
set_option linter.unnecessarySimpa false
set_option maxHeartbeats 1000000
namespace Go.Proofs.YtoincnplajnpnaaGreat
open Go Go.Tw
theorem qj4 : ∀ (k n : Nat), n < 10 ^ (k + 1) → (digs n).length ≤ k + 1
 | 0,n,h => by unfold digs; rw [dif_pos (by omega)]; exact Nat.le_refl _
 | k + 1, n, h => by
   unfold digs
   by_cases h1 : n < 10
   · rw [dif_pos h1]; simp
   · rw [dif_neg h1, List.length_cons]
     have := qj4 k (n / 10) (by rw [Nat.pow_succ] at h; omega)
     omega
def qag (q : Rat) : OpC := ⟨1,0,0,0,decide (q.num < 0),natW q.num.natAbs,natW q.den⟩
theorem qx5 {q : Rat} (h1 : q.num.natAbs < 10 ^ 40) (h2 : q.den < 10 ^ 40) : yf (decide (q.num < 0)) (natW q.num.natAbs) (natW q.den) = true := by
 unfold yf qbk
 rw [qb,qb,qa3]
 have e1 := qj4 39 _ h1
 have e2 := qj4 39 _ h2
 simp only [decide_true,Bool.and_self,Bool.true_and,decide_eq_true (show (digs q.num.natAbs).length ≤ 40 from e1),decide_eq_true (show (digs q.den).length ≤ 40 from e2)]
theorem qo9 {q : Rat} (h1 : q.num.natAbs < 10 ^ 40) (h2 : q.den < 10 ^ 40) : v7 (qag q) = true := by
 unfold v7 qag
 dsimp only
 rw [if_pos rfl,qx5 h1 h2]; rfl
theorem qj5 (q : Rat) (l : List Rat) : opR (qag q) l = some q := by
 unfold opR qag
 dsimp only
 rw [if_neg (by decide),if_neg (by decide),if_neg (by decide),if_neg (by decide),if_neg (by decide),if_neg (by decide),qb,qb,qa3]
theorem qpa (q : Rat) (l : List Nat) : wgt (qag q) l = some 1 := rfl
def NV.of (q : Rat) (vn vd : Value) : NV := ⟨decide (q.num < 0),natW q.num.natAbs,natW q.den,vn,vd⟩
theorem NV.of_q (q : Rat) (vn vd : Value) : (NV.of q vn vd).q = q := by
 unfold NV.q NV.of; dsimp only; rw [qb,qb,qa3]
def qdg (c a b e : Int) : OpV := ⟨⟨c,a,b,e,false,[],[]⟩,.slice none 0 0,.slice none 0 0⟩
theorem qj6 (I : Hp) (c a b e : Int) : (qdg c a b e).ok I := ⟨Ws.nil I,Ws.nil I⟩
theorem ji.of {I : Hp} {bo bu : Nat} {t : yr} (os : List OpV) {To Tu : TypeId} (ho : I bo = some (.cells (os.map OpV.cells).flatten.toArray To (0, 0))) (hu : I bu = some (.cells (ics t.outs).flatten.toArray Tu (0, 0))) (ok : ∀ o ∈ os, o.ok I) (eq : os.map OpV.c = t.ops) (hm : os.length ≤ 1000) (hm2 : t.outs.length ≤ 1000) :
   ji I (.slice (some ⟨bo,0,none⟩) os.length os.length) (.slice (some ⟨bu,0,none⟩) t.outs.length t.outs.length) t os := by
 refine ⟨?_,ok,eq,?_⟩
 · have h := Slc.of_box (sz := 7) (c := os.length) ho (fun c hc => by obtain ⟨o, _, rfl⟩ := List.mem_map.1 hc; rfl) (by unfold maxLen; rw [List.length_map]; omega) (by rw [List.length_map]; exact Nat.le_refl _)
   rwa [List.length_map] at h
 · have h := Slc.of_box (sz := 1) (c := t.outs.length) hu (fun c hc => by obtain ⟨o, _, rfl⟩ := List.mem_map.1 hc; rfl) (by unfold maxLen; rw [qcm]; omega) (by rw [qcm]; exact Nat.le_refl _)
   rwa [qcm] at h
theorem PtV.of {I : Hp} {b : Nat} (xs : List NV) {T : TypeId} (hb : I b = some (.cells (xs.map NV.cells).flatten.toArray T (0,0))) (ok : ∀ x ∈ xs,x.ok I) (hm : xs.length ≤ 1000) : PtV I (.slice (some ⟨b,0,none⟩) xs.length xs.length) xs := by
 refine ⟨?_,ok⟩
 have h := Slc.of_box (sz := 3) (c := xs.length) hb (fun c hc => by obtain ⟨o,_,rfl⟩ := List.mem_map.1 hc; rfl) (by unfold maxLen; rw [List.length_map]; omega) (by rw [List.length_map]; exact Nat.le_refl _)
 rwa [List.length_map] at h
theorem RsV.of {I : Hp} {b : Nat} (rs : List RV) {T : TypeId} (hb : I b = some (.cells (rcs rs).flatten.toArray T (0,0))) (ok : ∀ x ∈ rs,x.ok I) (hm : rs.length ≤ 1000) : RsV I (.slice (some ⟨b,0,none⟩) rs.length rs.length) (rs.map RV.q) := by
 refine ⟨rs,?_,ok,rfl⟩
 have h := Slc.of_box (sz := 3) (c := rs.length) hb (qef rs) (by unfold maxLen; rw [qao]; omega) (by rw [qao]; exact Nat.le_refl _)
 rwa [qao] at h
theorem qx6 {t : yr} {xs : List NV} {w : List Nat} {l : List Rat} (h1 : vw t = some w) (h2 : (xs.length : Int) = t.ins) (h3 : opsR t.ops (xs.map NV.q) = some l) : y9 t xs = .ok l := by
 unfold y9
 rw [h1,if_neg (by simp),if_neg (by omega),h3]
def aw1 : yr := ⟨1,[qag (mkRat 1 1),⟨2,0,1,0,false,[],[]⟩,⟨4,0,2,0,false,[],[]⟩],[3]⟩
def aw2 : yr := ⟨1,[qag (mkRat 1 1),⟨5,1,0,0,false,[],[]⟩],[2]⟩
theorem qx7 : vw aw1 = some [1,1,2,3] := by
 have h := qo9 (q := mkRat 1 1) (by decide +kernel) (by decide +kernel)
 unfold vw aw1
 simp only [wgts,h,qpa,if_true]
 decide +kernel
theorem qx8 : vw aw2 = some [1,1,2] := by
 have h := qo9 (q := mkRat 1 1) (by decide +kernel) (by decide +kernel)
 unfold vw aw2
 simp only [wgts,h,qpa,if_true]
 decide +kernel
theorem qx9 {xs : List NV} (h : xs.map NV.q = [mkRat 1 2]) : y9 aw1 xs = .ok [mkRat 1 2,mkRat 1 1,mkRat 3 2,mkRat 3 4] := by
 refine qx6 qx7 ?_ ?_
 · rw [← List.length_map (f := NV.q),h]; rfl
 · rw [h]
   unfold aw1
   simp only [opsR,qj5]
   decide +kernel
theorem qya {xs : List NV} (h : xs.map NV.q = [0]) : qaf aw2 xs = .error 3 := by
 have e : opsR aw2.ops [0] = none := by
   unfold aw2
   simp only [opsR,qj5]
   decide +kernel
 have hl : (xs.length : Int) = aw2.ins := by rw [← List.length_map (f := NV.q),h]; rfl
 unfold qaf y9
 rw [qx8,if_neg (by simp),if_neg (by omega),h,e]
theorem qen {q : Rat} (h : BdQ 1 q) : OpC.few 3000 (qag q) := ⟨yj ((h.few (Nat.le_refl _)).num) (by decide),yj ((h.few (Nat.le_refl _)).den) (by decide)⟩
theorem qj7 (c a b e : Int) : OpC.few 3000 ⟨c,a,b,e,false,[],[]⟩ := ⟨Nat.zero_le _,Nat.zero_le _⟩
theorem qdh {n : Int} {d : Nat} (hn : n.natAbs ≤ 1000000) (hd : d ≤ 1000000) : BdQ 1 (mkRat n d) := by
 rw [← qbz]
 have : (1000000 : Nat) ≤ 2 ^ 133 := by decide
 exact BdQ.low (by omega) (by omega)
theorem qyb {I : Hp} : Fun prog 4 [] I [] (fun v _ _ => v = .bool true) := by
 intro w hw
 refine qte _ func4 rfl ntmps4 ?_ hw;refine sR ?_;refine oV ?_;refine nS ?_;refine oI call13 rfl (qel 1 (by decide)) ?_;rintro _ I1 hx1 ⟨u1,u2,rfl,k1,k2⟩;refine vg trivial rfl (qch) rfl (.cons rfl rfl rfl (by repeat constructor) (.cons rfl rfl rfl (by repeat constructor) .nil)) ?_;iterate 2 refine vg trivial rfl (qch) rfl (.cons rfl rfl rfl (by repeat constructor) (.cons rfl rfl rfl (by repeat constructor) (.cons rfl rfl rfl (by repeat constructor) .nil))) ?_
 refine oB underlying31 sizeOf53 zeroValue53 fun b11 => ?_;refine oB underlying32 sizeOf3 zeroValue3 fun b12 => ?_;refine qcf (b := b11) (.there .here) (fun I2 hx2 hb11 => ?_);refine qcf (b := b12) .here (fun I3 hx3 hb12 => ?_)
 have ht : ji I3 (.slice (some ⟨b11, 0, none⟩) 3 3) (.slice (some ⟨b12, 0, none⟩) 1 1) aw1 [⟨qag (mkRat 1 1), u1, u2⟩, qdg 2 0 1 0, qdg 4 0 2 0] := ji.of (t := aw1) [⟨qag (mkRat 1 1), u1, u2⟩, qdg 2 0 1 0, qdg 4 0 2 0] (hx3.le _ _ hb11) hb12 (fun o ho => by
   simp only [List.mem_cons,List.not_mem_nil,or_false] at ho
   rcases ho with rfl | rfl | rfl
   · exact ⟨k1.le (hx2.le.trans hx3.le),k2.le (hx2.le.trans hx3.le)⟩
   · exact qj6 _ _ _ _ _
   · exact qj6 _ _ _ _ _) rfl (Nat.le_of_ble_eq_true rfl) (Nat.le_of_ble_eq_true rfl)
 refine vg trivial rfl (qcg) rfl (.cons rfl rfl rfl (by repeat constructor) (.cons rfl (by rfl) (by rfl) (by repeat constructor) (.cons rfl (by rfl) (by rfl) (by repeat constructor) .nil))) ?_;refine qh trivial rfl zeroValue34 rfl (fun b1 => ?_);refine oS sizeOf34 ?_;refine oN (tC (cS ?_));refine yb (m := 9) [.box b1 _] (by repeat constructor) (by kernel_rfl) rfl ?_;refine qT (i := 0) (qB 9 1) (Hp.Le.refl _) rfl rfl (oA isAgg34 sizeOf34 qF) ?_;refine qO (i := 1) (qB 9 3) rfl ?_;refine oI call16 rfl (qem 1 1 (by decide) (by decide)) ?_;rintro _ I4 hx4 ⟨u3,u4,rfl,k3,k4⟩;refine qM (hx4.le) ?_;refine qO (i := 2) (qB 9 7) rfl ?_;refine oB underlying39 sizeOf48 zeroValue48 fun b17 => ?_;refine qM (hx4.le) ?_;refine qO (i := 3) (qB 9 15) rfl ?_;refine qcf .here (fun I5 hx5 hb17 => ?_)
 have hpt : PtV I5 (.slice (some ⟨b17,0,none⟩) 1 1) [NV.of (mkRat 1 2) u3 u4] := PtV.of [NV.of (mkRat 1 2) u3 u4] hb17 (fun x hx => by rw [List.mem_singleton.1 hx]; exact ⟨k3.le hx5.le,k4.le hx5.le⟩) (Nat.le_of_ble_eq_true rfl)
 have hbd := qj3 (t := aw1) (xs := [NV.of (mkRat 1 2) u3 u4]) (fun o ho => by
   simp only [aw1,List.mem_cons,List.not_mem_nil,or_false] at ho
   rcases ho with rfl | rfl | rfl
   · exact qen (qdh (by decide) (by decide))
   · exact qj7 _ _ _ _
   · exact qj7 _ _ _ _) (fun x hx => by rw [List.mem_singleton.1 hx,NV.of_q]; exact qdh (by decide) (by decide)) (fun x hx => by rw [List.mem_singleton.1 hx]; exact qen (q := mkRat 1 2) (qdh (by decide) (by decide)))
 have hev := qof aw1 _ _ _ _ _ (ht.le (hx4.le.trans hx5.le)) hpt hbd.2
 rw [qx9 (by simp [NV.of_q])] at hev
 refine oI call15 rfl hev ?_;rintro _ I6 hx6 ⟨v6,rfl,hv6,_⟩;refine qM (((hx4.le).trans hx5.le).trans hx6.le) ?_;refine qT (i := 4) (qB 9 31) (((hx4.le).trans hx5.le).trans hx6.le) rfl rfl (oV qF) ?_;refine qT (i := 5) (qB 9 63) (((hx4.le).trans hx5.le).trans hx6.le) rfl rfl (oV qF) ?_;refine qT (i := 6) (qB 9 127) (((hx4.le).trans hx5.le).trans hx6.le) rfl rfl (oV qF) ?_;refine qT (i := 7) (qB 9 255) (((hx4.le).trans hx5.le).trans hx6.le) rfl rfl (oV qF) ?_;refine qT (i := 8) (qB 9 511) (((hx4.le).trans hx5.le).trans hx6.le) rfl rfl (oV qF) ?_;refine qn (by kernel_rfl) ?_;refine tC (sR ?_);refine oI call13 rfl (qel 1 (by decide)) ?_;rintro _ I7 hx7 ⟨u5,u6,rfl,k5,k6⟩;refine vg trivial rfl (qch) rfl (.cons rfl rfl rfl (by repeat constructor) (.cons rfl rfl rfl (by repeat constructor) .nil)) ?_;refine vg trivial rfl (qch) rfl (.cons rfl rfl rfl (by repeat constructor) (.cons rfl rfl rfl (by repeat constructor) (.cons rfl rfl rfl (by repeat constructor) .nil))) ?_;refine oB underlying31 sizeOf53 zeroValue53 fun b24 => ?_;refine oB underlying32 sizeOf3 zeroValue3 fun b25 => ?_;refine qcf (b := b24) (.there .here) (fun I8 hx8 hb24 => ?_);refine qcf (b := b25) .here (fun I9 hx9 hb25 => ?_)
 have ht2 : ji I9 (.slice (some ⟨b24, 0, none⟩) 2 2) (.slice (some ⟨b25, 0, none⟩) 1 1) aw2 [⟨qag (mkRat 1 1), u5, u6⟩, qdg 5 1 0 0] := ji.of (t := aw2) [⟨qag (mkRat 1 1), u5, u6⟩, qdg 5 1 0 0] (hx9.le _ _ hb24) hb25 (fun o ho => by
   simp only [List.mem_cons,List.not_mem_nil,or_false] at ho
   rcases ho with rfl | rfl
   · exact ⟨k5.le (hx8.le.trans hx9.le),k6.le (hx8.le.trans hx9.le)⟩
   · exact qj6 _ _ _ _ _) rfl (Nat.le_of_ble_eq_true rfl) (Nat.le_of_ble_eq_true rfl)
 have hv9 := (hv6 _ rfl).le (hx7.le.trans (hx8.le.trans hx9.le))
 refine vg trivial rfl (qcg) rfl (.cons rfl rfl rfl (by repeat constructor) (.cons rfl (by rfl) (by rfl) (by repeat constructor) (.cons rfl (by rfl) (by rfl) (by repeat constructor) .nil))) ?_;refine qh trivial rfl zeroValue34 rfl (fun b4 => ?_);refine oS sizeOf34 ?_;refine nS ?_;refine oA isAgg34 sizeOf34 ?_;refine vg trivial rfl (zd) rfl .nil ?_;refine oB underlying39 sizeOf48 zeroValue48 fun b30 => ?_;refine qcf .here (fun I10 hx10 hb30 => ?_)
 have hpt2 : PtV I10 (.slice (some ⟨b30,0,none⟩) 1 1) [⟨false,[],[],.slice none 0 0,.slice none 0 0⟩] := PtV.of [⟨false,[],[],.slice none 0 0,.slice none 0 0⟩] hb30 (fun x hx => by rw [List.mem_singleton.1 hx]; exact ⟨Ws.nil _,Ws.nil _⟩) (by decide)
 have hbd2 := qj3 (t := aw2) (xs := [⟨false, [], [], .slice none 0 0, .slice none 0 0⟩]) (fun o ho => by
   simp only [aw2,List.mem_cons,List.not_mem_nil,or_false] at ho
   rcases ho with rfl | rfl
   · exact qen (qdh (by decide) (by decide))
   · exact qj7 _ _ _ _) (fun x hx => by rw [List.mem_singleton.1 hx]; exact BdQ.low (by decide) (by decide)) (fun x hx => by rw [List.mem_singleton.1 hx]; exact ⟨Nat.zero_le _,Nat.zero_le _⟩)
 have hou := qoi aw2 _ _ _ _ _ (ht2.le hx10.le) hpt2 hbd2.2
 rw [qya (by show [lowQ false 0 0] = [0]; rw [qfs (.inl rfl)])] at hou
 refine oI call11 rfl hou ?_;rintro _ I11 hx11 ⟨v11,rfl,_,hv11⟩;iterate 5 refine oV ?_
 refine nS ?_
 obtain rfl := hv11 (by decide)
 iterate 2 refine oV ?_
 refine' oY (fun hb36 => ?_) ?_;rotate_left
 ·
  have fb36 := hb36
  try simp only [bl] at fb36
  refine gV hb36 ?_;refine qdz (wS rfl rfl hb36) rfl call16 rfl (qem 1 1 (by decide) (by decide)) ?_;rintro _ I12 hx12 ⟨w1,w2,rfl,m1,m2⟩;refine qdz (wS rfl rfl hb36) rfl call13 rfl (qel 1 (by decide)) ?_;rintro _ I13 hx13 ⟨w3,w4,rfl,m3,m4⟩;refine qdz (wS rfl rfl hb36) rfl call16 rfl (qem 3 1 (by decide) (by decide)) ?_;rintro _ I14 hx14 ⟨w5,w6,rfl,m5,m6⟩;refine qdz (wS rfl rfl hb36) rfl call16 rfl (qem 3 3 (by decide) (by decide)) ?_;rintro _ I15 hx15 ⟨w7,w8,rfl,m7,m8⟩;refine qmi (wS rfl rfl hb36) rfl underlying39 sizeOf48 zeroValue48 (by decide) (by decide) rfl (by repeat first | exact rfl | constructor) rfl (fun b42 => ?_);refine qcf .here (fun I16 hx16 hb42 => ?_)
  have hrs := RsV.of [⟨mkRat 1 2, w1, w2⟩, ⟨mkRat 1 1, w3, w4⟩, ⟨mkRat 3 2, w5, w6⟩, ⟨mkRat 3 4, w7, w8⟩] hb42 (fun x hx => by
    simp only [List.mem_cons,List.not_mem_nil,or_false] at hx
    rcases hx with rfl | rfl | rfl | rfl
    · exact ⟨m1.le (hx13.le.trans (hx14.le.trans (hx15.le.trans hx16.le))),m2.le (hx13.le.trans (hx14.le.trans (hx15.le.trans hx16.le)))⟩
    · exact ⟨m3.le (hx14.le.trans (hx15.le.trans hx16.le)),m4.le (hx14.le.trans (hx15.le.trans hx16.le))⟩
    · exact ⟨m5.le (hx15.le.trans hx16.le),m6.le (hx15.le.trans hx16.le)⟩
    · exact ⟨m7.le hx16.le,m8.le hx16.le⟩) (Nat.le_of_ble_eq_true rfl)
  refine yy (wS rfl rfl hb36) rfl call17 rfl (qxp _ _ _ _ (hv9.le (hx10.le.trans (hx11.le.trans (hx12.le.trans (hx13.le.trans (hx14.le.trans (hx15.le.trans hx16.le))))))) hrs) ?_;refine oN ?_;exact qtg rfl (fun _ h => (h.sort (by repeat constructor)).fewer (((((hx12.le).trans hx13.le).trans hx14.le).trans hx15.le).trans hx16.le))
 refine' oY (fun hb45 => ?_) ?_;rotate_left
 ·
  iterate 2 refine gV hb45 ?_
  refine oN ?_;exact qa rfl
 refine' oY (fun hb49 => ?_) ?_;rotate_left
 ·
  have fb49 := hb49
  try simp only [bl] at fb49
  refine gV hb49 ?_;refine qin (wS rfl rfl hb49) rfl underlying39 rfl ?_;refine gV hb49 ?_;refine oN ?_;exact qa rfl
 refine oV ?_;refine nE ?_;refine ret1 rfl rfl ?_;exact leaf (hx1.trans (hx2.trans (hx3.trans (hx4.trans (hx5.trans (hx6.trans (hx7.trans (hx8.trans (hx9.trans (hx10.trans hx11 (Nat.le_refl _)) (Nat.le_refl _)) (Nat.le_refl _)) (Nat.le_refl _)) (Nat.le_refl _)) (Nat.le_refl _)) (Nat.le_refl _)) (Nat.le_refl _)) (Nat.le_refl _)) (Nat.le_refl _)) (List.nil_sublist _) (congrArg Value.bool (by decide +kernel))
def qpb (r : Except Int (List Rat)) : List Rat := match r with
 | .ok l => l
 | .error _ => []
theorem RsV.nil (I : Hp) : RsV I (.slice none 0 0) [] := ⟨[],Slc.nil _ _,fun r h => (by cases h),rfl⟩
theorem qyc {r : Except Int (List Rat)} {v : Value} {I : Hp} (h : exR r v I) (he : ∀ e,r = .error e → e ≠ 0) : ∃ u,v = .tuple #[u,.int .i64 (qdb r)] ∧ RsV I u (qpb r) := by
 obtain ⟨u,rfl,h1,h2⟩ := h
 refine ⟨u,rfl,?_⟩
 cases r with
 | ok l => exact h1 l rfl
 | error e => rw [h2 (he e rfl)]; exact RsV.nil I
theorem qyd {t : yr} {xs : List NV} : ∀ e, y9 t xs = .error e → e ≠ 0 := fun e h => by
 unfold y9 at h
 split at h
 · cases h; decide
 · split at h
   · cases h; decide
   · split at h
     · cases h
     · cases h; decide
theorem qye {t : yr} {xs : List NV} : ∀ e, qaf t xs = .error e → e ≠ 0 := fun e h => by
 unfold qaf at h
 split at h
 · rename_i e' he; cases h; exact qyd _ he
 · cases h
theorem qpc {f : FuncId} {args : List Value} {I : Hp} {r : Except Int (List Rat)} (h : Fun prog f args I [] (fun v I' _ => exR r v I')) (he : ∀ e,r = .error e → e ≠ 0) : Fun prog f args I [] (fun v I' _ => ∃ u,v = .tuple #[u,.int .i64 (qdb r)] ∧ RsV I' u (qpb r)) := fun w hw => (h w hw).mono fun v w' ⟨I',B',h1,h2,h3⟩ => ⟨I',B',h1,h2,qyc h3 he⟩
end Go.Proofs.YtoincnplajnpnaaGreat
namespace Go.Tw
open Go
structure qb1 where
 op : Int
 a : Int
 b : Int
 n : Int
def qb1.cells (t : qb1) : List Value := [.int .u8 t.op,.int .u8 t.a,.int .u8 t.b,.int .u8 t.n]
structure qb1.ok (t : qb1) : Prop where
 op : 0 ≤ t.op ∧ t.op ≤ 255
 a : 0 ≤ t.a ∧ t.a ≤ 255
 b : 0 ≤ t.b ∧ t.b ≤ 255
 n : 0 ≤ t.n ∧ t.n ≤ 255
structure TnV (I : Hp) (v : Value) (ts : List qb1) : Prop where
 s : Slc I 4 v (ts.map qb1.cells)
 ok : ∀ t ∈ ts,t.ok
theorem TnV.le {I I' : Hp} {v : Value} {ts : List qb1} (h : TnV I v ts) (hl : I.Le I') : TnV I' v ts := ⟨h.s.le hl,h.ok⟩
theorem TnV.at_ {I : Hp} {v : Value} {ts : List qb1} (h : TnV I v ts) {i : Nat} {t : qb1} (ht : ts[i]? = some t) : ∀ k y, ([.int .u8 t.op, .int .u8 t.a, .int .u8 t.b, .int .u8 t.n] : List Value)[k]? = some y → I.cell? ⟨slcB v, slcO v + i * 4 + k, none⟩ = some y :=
 h.s.cells i _ (by rw [List.getElem?_map,ht]; rfl)
def bcs (l : List Int) : List (List Value) := l.map fun z => [.int .u8 z]
structure ByV (I : Hp) (v : Value) (l : List Int) : Prop where
 s : Slc I 1 v (bcs l)
 ok : ∀ z ∈ l,0 ≤ z ∧ z ≤ 255
theorem ByV.le {I I' : Hp} {v : Value} {l : List Int} (h : ByV I v l) (hl : I.Le I') : ByV I' v l := ⟨h.s.le hl,h.ok⟩
theorem ByV.at_ {I : Hp} {v : Value} {l : List Int} (h : ByV I v l) {i : Nat} {z : Int} (hz : l[i]? = some z) : I.cell? ⟨slcB v, slcO v + i * 1, none⟩ = some (.int .u8 z) :=
 h.s.cells i _ (by unfold bcs; rw [List.getElem?_map,hz]; rfl) 0 _ rfl
structure jm where
 n : Int
 d : Int
def jm.cells (t : jm) : List Value := [.int .i8 t.n,.int .u8 t.d]
structure jm.ok (t : jm) : Prop where
 n : -128 ≤ t.n ∧ t.n ≤ 127
 d : 0 ≤ t.d ∧ t.d ≤ 255
structure SmV (I : Hp) (v : Value) (ts : List jm) : Prop where
 s : Slc I 2 v (ts.map jm.cells)
 ok : ∀ t ∈ ts,t.ok
theorem SmV.le {I I' : Hp} {v : Value} {ts : List jm} (h : SmV I v ts) (hl : I.Le I') : SmV I' v ts := ⟨h.s.le hl,h.ok⟩
theorem SmV.at_ {I : Hp} {v : Value} {ts : List jm} (h : SmV I v ts) {i : Nat} {t : jm} (ht : ts[i]? = some t) : ∀ k y, ([.int .i8 t.n, .int .u8 t.d] : List Value)[k]? = some y → I.cell? ⟨slcB v, slcO v + i * 2 + k, none⟩ = some y :=
 h.s.cells i _ (by rw [List.getElem?_map,ht]; rfl)
end Go.Tw
namespace Go.Proofs.YtoincnplajnpnaaGreat
open Go Go.Tw
structure qf1 (l : List Nat) : Prop where
 some_ : 0 < l.length
 all : ∀ x ∈ l,1 ≤ x ∧ x ≤ 12
theorem qf1.more {l : List Nat} {m : Nat} (h : qf1 l) (hm : 1 ≤ m ∧ m ≤ 12) : qf1 (l ++ [m]) := ⟨by simp, fun x hx => by
 rcases List.mem_append.1 hx with hx | hx
 · exact h.all x hx
 · rw [List.mem_singleton.1 hx]; exact hm⟩
theorem qf1.le {l : List Nat} (h : qf1 l) : ∀ x ∈ l,x ≤ 200 := fun x hx => by have := h.all x hx; omega
theorem qpd {a : Int} {n : Nat} (h : 0 < n) : 0 ≤ a % (n : Int) ∧ a % (n : Int) < n := ⟨Int.emod_nonneg _ (by omega),Int.emod_lt_of_pos _ (by omega)⟩
def ocs (os : List OpV) : List (List Value) := os.map OpV.cells
theorem qpe (os : List OpV) : (ocs os).length = os.length := by simp [ocs]
theorem qpf (os : List OpV) : ∀ c ∈ ocs os,c.length = 7 := by
 intro c hc
 obtain ⟨r,_,rfl⟩ := List.mem_map.1 hc
 rfl
theorem qpg (os : List OpV) (o : OpV) : (ocs os).flatten ++ ([.int .i64 o.c.code,.int .i64 o.c.a,.int .i64 o.c.b,.int .i64 o.c.e,.bool o.c.neg,o.vn,o.vd] ++ []) = (ocs (os ++ [o])).flatten := by
 unfold ocs; rw [List.map_append,List.flatten_append]; rfl
theorem qph {I : Hp} {a b c d : Int} {s : Bool} {u1 u2 : Value} {X Y : List Nat} (h1 : Ws I u1 X) (h2 : Ws I u2 Y) : jo ([.int .i64 a,.int .i64 b,.int .i64 c,.int .i64 d,.bool s,u1,u2] ++ []) = true := by
 have e1 := h1.cells1.2
 have e2 := h2.cells1.2
 show (true && (true && (true && (true && (true && (u1.oneCell' && (u2.oneCell' && true))))))) = true
 rw [e1,e2]; rfl
end Go.Proofs.YtoincnplajnpnaaGreat
namespace Go.Proofs.YtoincnplajnpnaaGreat
open Go Go.Tw Go.ChangeShapes Go.WideShapes Go.ChangeAt
set_option maxRecDepth 100000
section
variable {base : Nat} {H : Type} {enc : TypeId × Value → H} {W : World} {v : Value} {cs : List Value} {d : DataW H} {ps : List MemPlace}
theorem qpi : prog.cellsOf 5 = 1 := by kernel_rfl
theorem qpj : prog.cellsOf 75 = 2 := by kernel_rfl
theorem qyf : prog.cellsOf 55 = 1 := by kernel_rfl
theorem two {l : List Value} (h : l.length = 2) : ∃ a b,l = [a,b] := by
 match l,h with
 | [a,b],_ => exact ⟨a,b,rfl⟩
theorem qyg {l : List Value} (h : l.length = 3) : ∃ a b c,l = [a,b,c] := by
 match l,h with
 | [a,b,c],_ => exact ⟨a,b,c,rfl⟩
theorem qyh (h : Tr enc prog W 75 cs) : ∃ x : jm,cs = x.cells ∧ x.ok := by
 obtain ⟨h1,h2⟩ := qm0 underlying75 h
 obtain ⟨a,b,rfl⟩ := two (by rw [h1]; exact qpj)
 have k0 := h2 0 _ rfl
 have k1 := h2 1 _ rfl
 change Tr enc prog W 55 (List.take (prog.cellsOf 55) [a,b]) at k0
 change Tr enc prog W 5 (List.take (prog.cellsOf 5) [b]) at k1
 rw [qyf] at k0
 rw [qpi] at k1
 obtain ⟨z0,rfl,b0⟩ := qfk underlying55 k0
 obtain ⟨z1,rfl,b1⟩ := qfk underlying5 k1
 exact ⟨⟨z0,z1⟩,rfl,bounds_i8 b0,bounds_u8 b1⟩
theorem qyi (hval : Value.okWide prog W .any base 23 v) (h : DataW.Trod enc prog W 0 (fun _ => true) true 23 v d ps) : ∃ ts,SmV (World.hp W) v ts := by
 obtain ⟨xss,h1,h2⟩ := qm1 (sz := 2) underlying23 qpj (by decide) (qmz underlying23 hval h)
 obtain ⟨ts,rfl,h3⟩ := qm2 (f := jm.cells) (p := jm.ok) fun c hc => qyh (h2 c hc)
 exact ⟨ts,h1,h3⟩
end
end Go.Proofs.YtoincnplajnpnaaGreat
namespace Go.Tw
open Go
def yw (r : Int) : Int :=
 if (97 ≤ r ∧ r ≤ 122) ∨ (65 ≤ r ∧ r ≤ 90) ∨ r = 95 ∨ (128 ≤ r ∧ r ≤ 1114111 ∧ r ≠ 65533) then 1
 else if 48 ≤ r ∧ r ≤ 57 then 2
 else if r = 9 ∨ r = 10 ∨ r = 13 ∨ r = 32 then 3
 else if r = 43 ∨ r = 45 ∨ r = 42 ∨ r = 47 ∨ r = 94 ∨ r = 40 ∨ r = 41 ∨ r = 61 ∨ r = 59 ∨ r = 44 then 4 else 0
def qeo (s : ByteArray) (i : Int) : Int × Int :=
 if i < 0 ∨ (s.size : Int) ≤ i then (0,0) else (((Utf8.decode s i.toNat).1 : Int),((Utf8.decode s i.toNat).2 : Int))
def j9 (s : ByteArray) (at_ : Int) : Nat → Nat → Int → Int → Int × Int
 | 0,_,l,c => (l,c)
 | f + 1, i, l, c =>
   if s.size ≤ i then (l,c)
   else if at_ < ((i + (Utf8.decode s i).2 : Nat) : Int) then (l,c)
   else if ((Utf8.decode s i).1 : Int) = 10 then j9 s at_ f (i + (Utf8.decode s i).2) (l + 1) 1
   else j9 s at_ f (i + (Utf8.decode s i).2) l (c + 1)
def vz (s : ByteArray) (at_ : Int) : Int × Int := j9 s at_ s.size 0 1 1
def keyZ (s : ByteArray) : Bool := s.toList == (ByteArray.mk #[105,110]).toList || s.toList == (ByteArray.mk #[108,101,116]).toList || s.toList == (ByteArray.mk #[111,117,116]).toList
def zg (s : ByteArray) : Nat → Nat → Bool
 | 0,_ => true
 | f + 1, i =>
   if s.size ≤ i then true
   else if (yw (Utf8.decode s i).1 ≠ 1 ∧ yw (Utf8.decode s i).1 ≠ 2) ∨ (yw (Utf8.decode s i).1 = 2 ∧ i = 0) then false
   else zg s f (i + (Utf8.decode s i).2)
def yk (s : ByteArray) : Bool := decide (1 ≤ s.size) && decide (s.size ≤ 40) && !keyZ s && zg s s.size 0
theorem jq (s : ByteArray) (i : Nat) : 1 ≤ (Utf8.decode s i).2 ∧ (Utf8.decode s i).2 ≤ 4 := by
 rw [Lib.decode_at]
 unfold Lib.decodeN
 repeat' split
 all_goals simp
theorem qep (s : ByteArray) (at_ : Int) : ∀ (f g i : Nat) (l c : Int), s.size ≤ i + f → s.size ≤ i + g → j9 s at_ f i l c = j9 s at_ g i l c
 | 0,0,i,l,c,_,_ => rfl
 | 0,g + 1,i,l,c,h,_ => by simp only [j9]; rw [if_pos (by omega)]
 | f + 1,0,i,l,c,_,h => by simp only [j9]; rw [if_pos (by omega)]
 | f + 1, g + 1, i, l, c, h1, h2 => by
   have hw := jq s i
   simp only [j9]
   rw [qep s at_ f g (i + (Utf8.decode s i).2) (l + 1) 1 (by omega) (by omega),qep s at_ f g (i + (Utf8.decode s i).2) l (c + 1) (by omega) (by omega)]
theorem qpk (s : ByteArray) : ∀ (f g i : Nat), s.size ≤ i + f → s.size ≤ i + g → zg s f i = zg s g i
 | 0,0,i,_,_ => rfl
 | 0,g + 1,i,h,_ => by simp only [zg]; rw [if_pos (by omega)]
 | f + 1,0,i,_,h => by simp only [zg]; rw [if_pos (by omega)]
 | f + 1, g + 1, i, h1, h2 => by
   have hw := jq s i
   simp only [zg]
   rw [qpk s f g (i + (Utf8.decode s i).2) (by omega) (by omega)]
theorem qyj {s : ByteArray} {at_ : Int} {f i : Nat} {l c : Int} (h : s.size ≤ i) : j9 s at_ f i l c = (l,c) := by
 cases f with
 | zero => rfl
 | succ f => simp only [j9]; rw [if_pos h]
theorem qyk {s : ByteArray} {at_ : Int} {i : Nat} {l c l' c' : Int} (hi : i < s.size) (h : ¬ at_ < ((i + (Utf8.decode s i).2 : Nat) : Int)) (hl : (((Utf8.decode s i).1 : Int) = 10 ∧ l' = l + 1 ∧ c' = 1) ∨ (((Utf8.decode s i).1 : Int) ≠ 10 ∧ l' = l ∧ c' = c + 1)) :
   j9 s at_ (s.size - i) i l c = j9 s at_ (s.size - (i + (Utf8.decode s i).2)) (i + (Utf8.decode s i).2) l' c' := by
 have hw := jq s i
 obtain ⟨f,hf⟩ : ∃ f,s.size - i = f + 1 := ⟨s.size - i - 1,by omega⟩
 rw [hf]
 conv => lhs; simp only [j9]
 rw [if_neg (by omega),if_neg h]
 rcases hl with ⟨h1,rfl,rfl⟩ | ⟨h1,rfl,rfl⟩
 · rw [if_pos h1]; exact qep s at_ _ _ _ _ _ (by omega) (by omega)
 · rw [if_neg h1]; exact qep s at_ _ _ _ _ _ (by omega) (by omega)
theorem qyl {s : ByteArray} {at_ : Int} {i : Nat} {l c : Int} (hi : i < s.size) (h : at_ < ((i + (Utf8.decode s i).2 : Nat) : Int)) :
   j9 s at_ (s.size - i) i l c = (l,c) := by
 obtain ⟨f,hf⟩ : ∃ f,s.size - i = f + 1 := ⟨s.size - i - 1,by omega⟩
 rw [hf]
 simp only [j9]
 rw [if_neg (by omega),if_pos h]
theorem qpl {s : ByteArray} {i : Nat} (hi : i < s.size) (h : (yw (Utf8.decode s i).1 ≠ 1 ∧ yw (Utf8.decode s i).1 ≠ 2) ∨ (yw (Utf8.decode s i).1 = 2 ∧ i = 0)) : zg s (s.size - i) i = false := by
 obtain ⟨f,hf⟩ : ∃ f,s.size - i = f + 1 := ⟨s.size - i - 1,by omega⟩
 rw [hf]
 simp only [zg]
 rw [if_neg (by omega),if_pos h]
theorem qpm {s : ByteArray} {i : Nat} (hi : i < s.size) (h : ¬ ((yw (Utf8.decode s i).1 ≠ 1 ∧ yw (Utf8.decode s i).1 ≠ 2) ∨ (yw (Utf8.decode s i).1 = 2 ∧ i = 0))) : zg s (s.size - i) i = zg s (s.size - (i + (Utf8.decode s i).2)) (i + (Utf8.decode s i).2) := by
 have hw := jq s i
 obtain ⟨f,hf⟩ : ∃ f,s.size - i = f + 1 := ⟨s.size - i - 1,by omega⟩
 rw [hf]
 conv => lhs; simp only [zg]
 rw [if_neg (by omega),if_neg h]
 exact qpk s _ _ _ (by omega) (by omega)
theorem qpn {s : ByteArray} {f i : Nat} (hi : s.size ≤ i) : zg s f i = true := by
 cases f with
 | zero => rfl
 | succ f => simp only [zg]; rw [if_pos hi]
theorem qpo {s : ByteArray} (h1 : 1 ≤ s.size) (h2 : s.size ≤ 40) (h3 : keyZ s = false) : yk s = zg s (s.size - 0) 0 := by
 unfold yk; rw [decide_eq_true h1,decide_eq_true h2,h3]; rfl
theorem qpp {s : ByteArray} (h : s.size < 1 ∨ 40 < s.size ∨ keyZ s = true) : yk s = false := by
 unfold yk
 rcases h with h | h | h
 · rw [decide_eq_false (by omega)]; rfl
 · rw [decide_eq_false (p := s.size ≤ 40) (by omega),Bool.and_false]; rfl
 · rw [h]; simp
theorem qpq {s : ByteArray} : s.toList = (ByteArray.mk #[]).toList ↔ s.size = 0 := by
 rw [ByteArray.toList_eq,ByteArray.toList_eq]
 show s.data.toList = [] ↔ s.data.size = 0
 rw [← Array.length_toList,List.length_eq_zero_iff]
def inZ (s : ByteArray) (i a b : Int) : Bool := decide (i < s.size) && decide (((s.get! i.toNat).toNat : Int) ≥ a) && decide (((s.get! i.toNat).toNat : Int) ≤ b)
theorem qeq {s : ByteArray} {i a b : Int} (h : inZ s i a b = true) : i < s.size := by
 unfold inZ at h; simp at h; omega
def qdi (s : ByteArray) (i : Int) : Int :=
 if ((s.get! i.toNat).toNat : Int) < 224 ∨ ((s.get! i.toNat).toNat : Int) > 239 ∨ !inZ s (i + 1) (if ((s.get! i.toNat).toNat : Int) = 224 then 160 else 128) (if ((s.get! i.toNat).toNat : Int) = 237 then 159 else 191) ∨ !inZ s (i + 2) 128 191 then -1
 else (((s.get! i.toNat).toNat : Int) - 224) * 4096 + (s.get! (i + 1).toNat).toNat % 64 * 64 + (s.get! (i + 2).toNat).toNat % 64
def qdj (s : ByteArray) (i : Int) : Int :=
 if ((s.get! i.toNat).toNat : Int) < 240 ∨ ((s.get! i.toNat).toNat : Int) > 244 ∨ !inZ s (i + 1) (if ((s.get! i.toNat).toNat : Int) = 240 then 144 else 128) (if ((s.get! i.toNat).toNat : Int) = 244 then 143 else 191) ∨ !inZ s (i + 2) 128 191 ∨ !inZ s (i + 3) 128 191 then -1
 else (((s.get! i.toNat).toNat : Int) - 240) * 262144 + (s.get! (i + 1).toNat).toNat % 64 * 4096 + (s.get! (i + 2).toNat).toNat % 64 * 64 + (s.get! (i + 3).toNat).toNat % 64
def qcv (s : ByteArray) (i : Int) : Int × Int :=
 if i < 0 ∨ (s.size : Int) ≤ i then (0,0)
 else
     if ((s.get! i.toNat).toNat : Int) < 128 then (((s.get! i.toNat).toNat : Int),1)
   else if inZ s i 194 223 && inZ s (i + 1) 128 191 then ((((s.get! i.toNat).toNat : Int) - 192) * 64 + (s.get! (i + 1).toNat).toNat % 64,2)
   else if 0 ≤ qdi s i then (qdi s i,3)
   else if 0 ≤ qdj s i then (qdj s i,4)
   else (65533,1)
theorem qhk (s : ByteArray) (i k : Nat) (a b : Int) : inZ s ((i : Int) + (k : Int)) a b = (decide (k < s.size - i) && decide (a ≤ ((s.get! (i + k)).toNat : Int)) && decide (((s.get! (i + k)).toNat : Int) ≤ b)) := by
 unfold inZ
 have e : ((i : Int) + (k : Int)).toNat = i + k := by omega
 have e2 : decide ((i : Int) + (k : Int) < (s.size : Int)) = decide (k < s.size - i) := decide_eq_decide.2 (by omega)
 rw [e,e2]
set_option maxRecDepth 100000 in
set_option maxHeartbeats 4000000 in
theorem qym (n b0 b1 b2 b3 : Nat) (hn : 1 ≤ n) (h0 : b0 < 256) (h1 : b1 < 256) (h2 : b2 < 256) (h3 : b3 < 256) (lo hi lo4 hi4 : Int) (hlo : lo = if (b0 : Int) = 224 then 160 else 128) (hhi : hi = if (b0 : Int) = 237 then 159 else 191)
   (hlo4 : lo4 = if (b0 : Int) = 240 then 144 else 128) (hhi4 : hi4 = if (b0 : Int) = 244 then 143 else 191) (t f : Int)
   (ht : t = if (b0 : Int) < 224 ∨ (b0 : Int) > 239 ∨ ¬ (1 < n ∧ lo ≤ (b1 : Int) ∧ (b1 : Int) ≤ hi) ∨ ¬ (2 < n ∧ 128 ≤ (b2 : Int) ∧ (b2 : Int) ≤ 191) then -1 else ((b0 : Int) - 224) * 4096 + (b1 : Int) % 64 * 64 + (b2 : Int) % 64)
   (hf : f = if (b0 : Int) < 240 ∨ (b0 : Int) > 244 ∨ ¬ (1 < n ∧ lo4 ≤ (b1 : Int) ∧ (b1 : Int) ≤ hi4) ∨ ¬ (2 < n ∧ 128 ≤ (b2 : Int) ∧ (b2 : Int) ≤ 191) ∨ ¬ (3 < n ∧ 128 ≤ (b3 : Int) ∧ (b3 : Int) ≤ 191) then -1 else ((b0 : Int) - 240) * 262144 + (b1 : Int) % 64 * 4096 + (b2 : Int) % 64 * 64 + (b3 : Int) % 64) :
   (if (b0 : Int) < 128 then ((b0 : Int), (1 : Int)) else if (194 ≤ (b0 : Int) ∧ (b0 : Int) ≤ 223) ∧ 1 < n ∧ 128 ≤ (b1 : Int) ∧ (b1 : Int) ≤ 191 then (((b0 : Int) - 192) * 64 + (b1 : Int) % 64, 2) else if 0 ≤ t then (t, 3) else if 0 ≤ f then (f, 4) else (65533, 1)) =
     (((Lib.decodeN n b0 b1 b2 b3).1 : Int),((Lib.decodeN n b0 b1 b2 b3).2 : Int)) := by
 unfold Lib.decodeN
 by_cases c1 : b0 < 128
 · rw [if_pos (by omega),if_pos c1]; rfl
 rw [if_neg (by omega),if_neg c1]
 by_cases c2 : b0 / 32 = 6 ∧ 1 < n ∧ b1 / 64 = 2
 · rw [if_pos c2]
   by_cases c3 : b0 % 32 * 64 + b1 % 64 ≥ 128
   · rw [if_pos c3, if_pos (by omega)]
     apply Prod.ext <;> simp only <;> omega
   · have ht' : t = -1 := by rw [ht, if_pos (by omega)]
     have hf' : f = -1 := by rw [hf,if_pos (by omega)]
     rw [if_neg c3,if_neg (by omega),if_neg (by omega),if_neg (by omega)]; rfl
 rw [if_neg c2,if_neg (by omega)]
 by_cases c4 : b0 / 16 = 14 ∧ (1 < n ∧ b1 / 64 = 2) ∧ (2 < n ∧ b2 / 64 = 2)
 · rw [if_pos c4]
   have hf' : f = -1 := by rw [hf,if_pos (by omega)]
   split
   · rename_i c5
     have ht' : t = ((b0 : Int) - 224) * 4096 + (b1 : Int) % 64 * 64 + (b2 : Int) % 64 := by
       rw [ht,if_neg ?_]
       split at hlo <;> split at hhi <;> omega
     rw [if_pos (by omega)]
     apply Prod.ext <;> simp only <;> omega
   · rename_i c5
     have ht' : t = -1 := by
       rw [ht,if_pos ?_]
       split at hlo <;> split at hhi <;> omega
     rw [if_neg (by omega),if_neg (by omega)]; rfl
 rw [if_neg c4]
 have ht' : t = -1 := by
   rw [ht,if_pos ?_]
   split at hlo <;> split at hhi <;> omega
 rw [if_neg (by omega)]
 by_cases c6 : b0 / 8 = 30 ∧ (1 < n ∧ b1 / 64 = 2) ∧ (2 < n ∧ b2 / 64 = 2) ∧ (3 < n ∧ b3 / 64 = 2)
 · rw [if_pos c6]
   split
   · rename_i c5
     have hf' : f = ((b0 : Int) - 240) * 262144 + (b1 : Int) % 64 * 4096 + (b2 : Int) % 64 * 64 + (b3 : Int) % 64 := by
       rw [hf,if_neg ?_]
       split at hlo4 <;> split at hhi4 <;> omega
     rw [if_pos (by omega)]
     apply Prod.ext <;> simp only <;> omega
   · rename_i c5
     have hf' : f = -1 := by
       rw [hf,if_pos ?_]
       split at hlo4 <;> split at hhi4 <;> omega
     rw [if_neg (by omega)]; rfl
 · rw [if_neg c6]
   have hf' : f = -1 := by
     rw [hf,if_pos ?_]
     split at hlo4 <;> split at hhi4 <;> omega
   rw [if_neg (by omega)]; rfl
theorem qyn (s : ByteArray) (i : Int) : qcv s i = qeo s i := by
 unfold qcv qeo
 by_cases h : i < 0 ∨ (s.size : Int) ≤ i
 · rw [if_pos h,if_pos h]
 rw [if_neg h,if_neg h]
 obtain ⟨k,rfl⟩ := Int.eq_ofNat_of_zero_le (show 0 ≤ i by omega)
 have e0 : ((k : Int)).toNat = k := by omega
 have e1 : ((k : Int) + 1).toNat = k + 1 := by omega
 have e2 : ((k : Int) + 2).toNat = k + 2 := by omega
 have e3 : ((k : Int) + 3).toNat = k + 3 := by omega
 have i0 := fun a b => qhk s k 0 a b
 have i1 := fun a b => qhk s k 1 a b
 have i2 := fun a b => qhk s k 2 a b
 have i3 := fun a b => qhk s k 3 a b
 simp only [Int.natCast_zero,Int.add_zero,Nat.add_zero] at i0
 rw [e0,Lib.decode_at]
 rw [← qym (s.size - k) _ _ _ _ (by omega) (s.get! k).toNat_lt (s.get! (k + 1)).toNat_lt (s.get! (k + 2)).toNat_lt (s.get! (k + 3)).toNat_lt _ _ _ _ rfl rfl rfl rfl (qdi s k) (qdj s k) ?_ ?_]
 · have hc : (inZ s (k : Int) 194 223 && inZ s ((k : Int) + 1) 128 191) = decide ((194 ≤ ((s.get! k).toNat : Int) ∧ ((s.get! k).toNat : Int) ≤ 223) ∧ 1 < s.size - k ∧ 128 ≤ ((s.get! (k + 1)).toNat : Int) ∧ ((s.get! (k + 1)).toNat : Int) ≤ 191) := by
     have := i1 128 191
     simp only [Int.natCast_one] at this
     rw [i0,this]
     rw [Bool.eq_iff_iff]
     simp only [Bool.and_eq_true,decide_eq_true_eq]
     omega
   rw [e1,hc]
   simp only [decide_eq_true_eq]
 · unfold qdi
   have j1 := fun a b => i1 a b
   have j2 := fun a b => i2 a b
   simp only [Int.natCast_one] at j1
   rw [show ((2 : Nat) : Int) = 2 from rfl] at j2
   rw [e0,e1,e2,j1,j2]
   congr 1
   simp only [Bool.not_eq_true',Bool.and_eq_false_iff,decide_eq_false_iff_not,gt_iff_lt,eq_iff_iff]
   omega
 · unfold qdj
   have j1 := fun a b => i1 a b
   have j2 := fun a b => i2 a b
   have j3 := fun a b => i3 a b
   simp only [Int.natCast_one] at j1
   rw [show ((2 : Nat) : Int) = 2 from rfl] at j2
   rw [show ((3 : Nat) : Int) = 3 from rfl] at j3
   rw [e0,e1,e2,e3,j1,j2,j3]
   congr 1
   simp only [Bool.not_eq_true',Bool.and_eq_false_iff,decide_eq_false_iff_not,gt_iff_lt,eq_iff_iff]
   omega
theorem qb2 (s : ByteArray) (i : Nat) (h : i < s.size) : i + (Utf8.decode s i).2 ≤ s.size := by
 rw [Lib.decode_at]
 unfold Lib.decodeN
 repeat' split
 all_goals simp only
 all_goals omega
structure Pl where
 i : Nat
 l : Int
 c : Int
 ll : Int
 lc : Int
structure qdk (s : ByteArray) (at_ : Int) (x : Pl) : Prop where
 le : x.i ≤ s.size
 bl : 1 ≤ x.l ∧ x.l ≤ x.i + 1
 bc : 1 ≤ x.c ∧ x.c ≤ x.i + 1
 was : at_ < x.i → 0 < x.i → vz s at_ = (x.ll,x.lc)
 next : ¬ (at_ < x.i ∧ 0 < x.i) → vz s at_ = j9 s at_ (s.size - x.i) x.i x.l x.c
 first : x.i = 0 → (x.ll,x.lc) = (x.l,x.c)
theorem qdk.start (s : ByteArray) (at_ : Int) : qdk s at_ ⟨0, 1, 1, 1, 1⟩ :=
 ⟨Nat.zero_le _,by simp,by simp,fun _ h => absurd h (Nat.lt_irrefl _),fun _ => rfl,fun _ => rfl⟩
theorem qdk.step {s : ByteArray} {at_ : Int} {i : Nat} {l c ll lc l' c' : Int} (h : qdk s at_ ⟨i, l, c, ll, lc⟩) (hi : i < s.size) (hn : ¬ (at_ < i ∧ 0 < i)) (hl : (((Utf8.decode s i).1 : Int) = 10 ∧ l' = l + 1 ∧ c' = 1) ∨ (((Utf8.decode s i).1 : Int) ≠ 10 ∧ l' = l ∧ c' = c + 1)) :
   qdk s at_ ⟨i + (Utf8.decode s i).2,l',c',l,c⟩ := by
 obtain ⟨h1,h2,h3,h4,h5,h6⟩ := h
 simp only at *
 have hw := jq s i
 have hin := qb2 s i hi
 have e := h5 hn
 obtain ⟨f,hf⟩ : ∃ f,s.size - i = f + 1 := ⟨s.size - i - 1,by omega⟩
 rw [hf] at e
 simp only [j9] at e
 rw [if_neg (by omega)] at e
 refine ⟨hin,by rcases hl with ⟨_,rfl,rfl⟩ | ⟨_,rfl,rfl⟩ <;> simp only <;> omega,by rcases hl with ⟨_,rfl,rfl⟩ | ⟨_,rfl,rfl⟩ <;> simp only <;> omega,fun ha _ => ?_,fun hn' => ?_,fun h0 => ?_⟩
 · rw [e,if_pos ha]
 · simp only at hn' ⊢
   rw [e,if_neg (by omega)]
   rcases hl with ⟨hr,rfl,rfl⟩ | ⟨hr,rfl,rfl⟩
   · rw [if_pos hr]; exact qep s at_ f _ _ _ _ (by omega) (by omega)
   · rw [if_neg hr]; exact qep s at_ f _ _ _ _ (by omega) (by omega)
 · simp only at h0; omega
theorem qdk.ret {s : ByteArray} {at_ : Int} {i : Nat} {l c ll lc : Int} (h : qdk s at_ ⟨i,l,c,ll,lc⟩) (hn : at_ < i ∧ 0 < i) : vz s at_ = (ll,lc) := h.was hn.1 hn.2
end Go.Tw
namespace Go.Proofs.YtoincnplajnpnaaGreat
open Go Go.Tw
structure Rch (s : ByteArray) (i : Nat) (l c : Int) : Prop where
 le : i ≤ s.size
 bl : 1 ≤ l ∧ l ≤ i + 1
 bc : 1 ≤ c ∧ c ≤ i + 1
 go : ∀ at_ : Int,(i : Int) ≤ at_ → vz s at_ = j9 s at_ (s.size - i) i l c
theorem Rch.start (s : ByteArray) : Rch s 0 1 1 := ⟨Nat.zero_le _,by simp,by simp,fun _ _ => rfl⟩
theorem Rch.step {s : ByteArray} {i : Nat} {l c l' c' : Int} (h : Rch s i l c) (hi : i < s.size) (hl : (((Utf8.decode s i).1 : Int) = 10 ∧ l' = l + 1 ∧ c' = 1) ∨ (((Utf8.decode s i).1 : Int) ≠ 10 ∧ l' = l ∧ c' = c + 1)) : Rch s (i + (Utf8.decode s i).2) l' c' := by
 have hw := jq s i
 have hin := qb2 s i hi
 have hbl := h.bl; have hbc := h.bc
 refine ⟨by omega,by omega,by omega,fun at_ ha => ?_⟩
 rw [h.go at_ (by omega)]
 exact qyk hi (by omega) hl
theorem Rch.here {s : ByteArray} {i : Nat} {l c : Int} (h : Rch s i l c) {at_ : Int} (h1 : (i : Int) ≤ at_) (h2 : at_ < ((i + (Utf8.decode s i).2 : Nat) : Int) ∨ s.size ≤ i) : vz s at_ = (l,c) := by
 rw [h.go at_ h1]
 rcases Nat.lt_or_ge i s.size with hi | hi
 · exact qyl hi (by omega)
 · exact qyj hi
theorem qhl (s : ByteArray) : vz s 0 = (1,1) := by
 have hw := jq s 0
 exact (Rch.start s).here (Int.le_refl _) (.inl (by omega))
theorem qf2 (s t : ByteArray) (j : Nat) (h : j < s.size) : (s ++ t).get! j = s.get! j := by
 have h' : j < s.data.size := h
 show (s ++ t).data[j]! = s.data[j]!
 rw [ByteArray.data_append,getElem!_def,getElem!_def,Array.getElem?_append_left h']
theorem qyo (s t : ByteArray) (j : Nat) : (s ++ t).get! (s.size + j) = t.get! j := by
 show (s ++ t).data[s.data.size + j]! = t.data[j]!
 rw [ByteArray.data_append,getElem!_def,getElem!_def,Array.getElem?_append_right (by omega)]
 simp
end Go.Proofs.YtoincnplajnpnaaGreat
namespace Go.Tw
open Go
def kAt (s : ByteArray) (i : Nat) : Int := yw (Utf8.decode s i).1
def qb3 (p : Int → Bool) (s : ByteArray) : Nat → Nat → Nat
 | 0,i => s.size
 | f + 1,i => if s.size ≤ i then s.size else if p (kAt s i) then qb3 p s f (i + (Utf8.decode s i).2) else i
def vf (p : Int → Bool) (s : ByteArray) (i : Nat) : Nat := qb3 p s (s.size - i) i
def vh (k : Int) : Bool := k == 2
def qah (k : Int) : Bool := k == 1 || k == 2
def qhm (s : ByteArray) : Nat → Nat → Nat
 | 0,i => s.size
 | f + 1,i => if s.size ≤ i then s.size else if (s.get! i).toNat = 124 then i else qhm s f (i + 1)
def cutZ (s : ByteArray) : Nat := qhm s s.size 0
def qer (s : ByteArray) : Bool := decide (1 ≤ s.size) && decide (s.size ≤ 40) && decide (vf vh s 0 = s.size) && (decide (s.size = 1) || decide ((s.get! 0).toNat ≠ 48))
def numZ (s : ByteArray) : Bool :=
 if cutZ s = s.size then qer s
 else qer (s.extract 0 (cutZ s)) && qer (s.extract (cutZ s + 1) s.size) && !((s.extract (cutZ s + 1) s.size).toList == (ByteArray.mk #[48]).toList)
def ja (s : ByteArray) (i : Nat) : Nat :=
 if vf vh s i < s.size ∧ (s.get! (vf vh s i)).toNat = 124 ∧ vf vh s i + 1 < vf vh s (vf vh s i + 1) then vf vh s (vf vh s i + 1) else vf vh s i
structure TokR where
 kind : Int
 text : ByteArray
 stop : Nat
 err : Int
def tokZ (s : ByteArray) (i : Nat) : TokR :=
 if kAt s i = 1 then
   if vf qah s i - i > 40 then ⟨0,⟨#[]⟩,vf qah s i,4⟩ else ⟨0,s.extract i (vf qah s i),vf qah s i,0⟩
 else if kAt s i = 2 then
   if cutZ (s.extract i (ja s i)) > 40 ∨ (s.extract i (ja s i)).size - cutZ (s.extract i (ja s i)) > 41 then ⟨0,⟨#[]⟩,ja s i,4⟩
   else if numZ (s.extract i (ja s i)) then ⟨1,s.extract i (ja s i),ja s i,0⟩ else ⟨0,⟨#[]⟩,ja s i,5⟩
 else if kAt s i = 4 then ⟨2,s.extract i (i + (Utf8.decode s i).2),i + (Utf8.decode s i).2,0⟩
 else ⟨0,⟨#[]⟩,i,5⟩
structure Tok where
 kind : Int
 text : ByteArray
 line : Int
 col : Int
def Tok.cells (t : Tok) : List Value := [.int .i64 t.kind,.string t.text,.int .i64 t.line,.int .i64 t.col]
structure LexR where
 toks : List Tok
 line : Int
 col : Int
 err : Int
def qbn (s : ByteArray) : Nat → Nat → List Tok → LexR
 | 0,_,out => ⟨out,0,0,0⟩
 | f + 1, i, out =>
   if s.size ≤ i then ⟨out,0,0,0⟩
   else if kAt s i = 3 then qbn s f (i + 1) out
   else if 4000 ≤ out.length then ⟨[],(vz s i).1,(vz s i).2,4⟩
   else if (tokZ s i).err ≠ 0 then ⟨[],(vz s i).1,(vz s i).2,(tokZ s i).err⟩
   else qbn s f (tokZ s i).stop (out ++ [⟨(tokZ s i).kind,(tokZ s i).text,(vz s i).1,(vz s i).2⟩])
def lexZ (s : ByteArray) : LexR := if 60000 < s.size then ⟨[],1,1,4⟩ else qbn s s.size 0 []
theorem qpr (p : Int → Bool) (s : ByteArray) : ∀ (f g i : Nat), s.size ≤ i + f → s.size ≤ i + g → qb3 p s f i = qb3 p s g i
 | 0,0,i,_,_ => rfl
 | 0,g + 1,i,h,_ => by simp only [qb3]; rw [if_pos (by omega)]
 | f + 1,0,i,_,h => by simp only [qb3]; rw [if_pos (by omega)]
 | f + 1, g + 1, i, h1, h2 => by
   have hw := jq s i
   simp only [qb3]
   rw [qpr p s f g (i + (Utf8.decode s i).2) (by omega) (by omega)]
theorem qf3 {p : Int → Bool} {s : ByteArray} {i : Nat} (h : s.size ≤ i) : vf p s i = s.size := by
 unfold vf
 cases hf : s.size - i with
 | zero => rfl
 | succ f => omega
theorem qdl {p : Int → Bool} {s : ByteArray} {i : Nat} (h : i < s.size) (hp : p (kAt s i) = false) : vf p s i = i := by
 unfold vf
 obtain ⟨f,hf⟩ : ∃ f,s.size - i = f + 1 := ⟨s.size - i - 1,by omega⟩
 rw [hf]
 simp only [qb3]
 rw [if_neg (by omega),hp]
 rfl
theorem qcw {p : Int → Bool} {s : ByteArray} {i : Nat} (h : i < s.size) (hp : p (kAt s i) = true) : vf p s i = vf p s (i + (Utf8.decode s i).2) := by
 have hw := jq s i
 unfold vf
 obtain ⟨f,hf⟩ : ∃ f,s.size - i = f + 1 := ⟨s.size - i - 1,by omega⟩
 rw [hf]
 conv => lhs; simp only [qb3]
 rw [if_neg (by omega),if_pos hp]
 exact qpr p s _ _ _ (by omega) (by omega)
inductive Hops (s : ByteArray) (a : Nat) : Nat → Prop
 | refl : Hops s a a
 | step {i : Nat} : Hops s a i → i < s.size → Hops s a (i + (Utf8.decode s i).2)
theorem Hops.trans {s : ByteArray} {a b c : Nat} (h : Hops s a b) (h2 : Hops s b c) : Hops s a c := by
 induction h2 with
 | refl => exact h
 | step _ hi ih => exact ih.step hi
theorem Hops.ge {s : ByteArray} {a b : Nat} (h : Hops s a b) : a ≤ b := by
 induction h with
 | refl => exact Nat.le_refl _
 | step _ _ ih => omega
theorem Hops.le {s : ByteArray} {a b : Nat} (h : Hops s a b) (ha : a ≤ s.size) : b ≤ s.size := by
 induction h with
 | refl => exact ha
 | step _ hi ih => exact qb2 s _ hi
theorem qdm (p : Int → Bool) (s : ByteArray) : ∀ (f i : Nat), s.size ≤ i + f → i ≤ s.size → Hops s i (vf p s i)
 | 0,i,h,hi => by rw [qf3 (by omega),show i = s.size by omega]; exact .refl
 | f + 1, i, h, hi => by
   rcases Nat.lt_or_ge i s.size with hlt | hge
   · have hw := jq s i
     have hin := qb2 s i hlt
     cases hp : p (kAt s i) with
     | false => rw [qdl hlt hp]; exact .refl
     | true =>
       rw [qcw hlt hp]
       exact (Hops.refl.step hlt).trans (qdm p s f _ (by omega) hin)
   · rw [qf3 hge,show i = s.size by omega]; exact .refl
theorem qhn (p : Int → Bool) (s : ByteArray) (i : Nat) (hi : i ≤ s.size) : i ≤ vf p s i := (qdm p s s.size i (by omega) hi).ge
theorem qes (p : Int → Bool) (s : ByteArray) (i : Nat) (hi : i ≤ s.size) : vf p s i ≤ s.size := (qdm p s s.size i (by omega) hi).le hi
theorem qps {s : ByteArray} {i : Nat} (h : (Utf8.decode s i).1 < 128) : (Utf8.decode s i).2 = 1 ∧ (Utf8.decode s i).1 = (s.get! i).toNat := by
 rw [Lib.decode_at] at h ⊢
 unfold Lib.decodeN at h ⊢
 by_cases h0 : (s.get! i).toNat < 128
 · rw [if_pos h0]; exact ⟨rfl,rfl⟩
 · rw [if_neg h0] at h
   exfalso
   revert h
   repeat' split
   all_goals (simp only; omega)
theorem decode_ascii {s : ByteArray} {i : Nat} (h : (s.get! i).toNat < 128) : Utf8.decode s i = ((s.get! i).toNat,1) := by
 rw [Lib.decode_at]; unfold Lib.decodeN; rw [if_pos h]
theorem qyp {r : Int} : yw r = 2 ↔ 48 ≤ r ∧ r ≤ 57 := by
 unfold yw
 repeat' split
 all_goals omega
theorem qyq {r : Int} (h : yw r = 3) : r = 9 ∨ r = 10 ∨ r = 13 ∨ r = 32 := by
 unfold yw at h
 split at h
 · omega
 · split at h
   · omega
   · split at h
     · assumption
     · split at h <;> omega
theorem qyr {s : ByteArray} {i : Nat} (h : kAt s i = 2) : (Utf8.decode s i).2 = 1 ∧ 48 ≤ (s.get! i).toNat ∧ (s.get! i).toNat ≤ 57 := by
 have h1 := qyp.1 h
 have h2 := qps (s := s) (i := i) (by omega)
 exact ⟨h2.1,by omega,by omega⟩
theorem qj8 {s : ByteArray} {i : Nat} (h : kAt s i = 3) : (Utf8.decode s i).2 = 1 := by
 have h1 := qyq h
 exact (qps (s := s) (i := i) (by omega)).1
theorem qpt (s : ByteArray) : ∀ (f i : Nat), qhm s f i ≤ s.size
 | 0,i => Nat.le_refl _
 | f + 1, i => by
   simp only [qhm]
   repeat' split
   · exact Nat.le_refl _
   · omega
   · exact qpt s f _
theorem qys (s : ByteArray) : cutZ s ≤ s.size := qpt s _ _
theorem qpu (s : ByteArray) (i : Nat) (hi : i ≤ s.size) : i ≤ ja s i ∧ ja s i ≤ s.size := by
 have h1 := qhn vh s i hi
 have h2 := qes vh s i hi
 unfold ja
 split
 · rename_i h
   have h3 := qes vh s (vf vh s i + 1) (by omega)
   omega
 · omega
theorem qf4 {s : ByteArray} {i : Nat} (hi : i < s.size) (h : (tokZ s i).err = 0) : i < (tokZ s i).stop ∧ (tokZ s i).stop ≤ s.size := by
 have hw := jq s i
 have hin := qb2 s i hi
 unfold tokZ at h ⊢
 by_cases h1 : kAt s i = 1
 · rw [if_pos h1] at h ⊢
   have e := qcw (p := qah) hi (by unfold qah; rw [h1]; rfl)
   have h3 := qhn qah s (i + (Utf8.decode s i).2) hin
   have h4 := qes qah s i (by omega)
   split
   · rename_i h2; rw [if_pos h2] at h; simp at h
   · simp only; omega
 · rw [if_neg h1] at h ⊢
   by_cases h2 : kAt s i = 2
   · rw [if_pos h2] at h ⊢
     have e := qcw (p := vh) hi (by unfold vh; rw [h2]; rfl)
     have h3 := qhn vh s (i + (Utf8.decode s i).2) hin
     have hn : i < ja s i := by
       unfold ja
       split
       · rename_i hh
         omega
       · omega
     have hle := (qpu s i (by omega)).2
     split
     · rename_i h5; rw [if_pos h5] at h; simp at h
     · rename_i h5
       rw [if_neg h5] at h
       split
       · exact ⟨hn,hle⟩
       · rename_i h6; rw [if_neg h6] at h; simp at h
   · rw [if_neg h2] at h ⊢
     by_cases h3 : kAt s i = 4
     · rw [if_pos h3]; simp only; omega
     · rw [if_neg h3] at h; simp at h
theorem qet {s : ByteArray} {f i : Nat} {out : List Tok} (h : s.size ≤ i) : qbn s f i out = ⟨out,0,0,0⟩ := by
 cases f with
 | zero => rfl
 | succ f => simp only [qbn]; rw [if_pos h]
theorem qho (s : ByteArray) : ∀ (f g i : Nat) (out : List Tok), s.size ≤ i + f → s.size ≤ i + g → qbn s f i out = qbn s g i out
 | 0,g,i,out,h,_ => by rw [qet (by omega),qet (by omega)]
 | f + 1,0,i,out,_,h => by rw [qet (by omega),qet (by omega)]
 | f + 1, g + 1, i, out, h1, h2 => by
   by_cases hi : s.size ≤ i
   · rw [qet hi,qet hi]
   · simp only [qbn]
     rw [if_neg hi,if_neg hi]
     by_cases h3 : kAt s i = 3
     · rw [if_pos h3,if_pos h3]; exact qho s f g (i + 1) out (by omega) (by omega)
     · rw [if_neg h3, if_neg h3]
       by_cases h4 : 4000 ≤ out.length
       · rw [if_pos h4,if_pos h4]
       · rw [if_neg h4, if_neg h4]
         by_cases h5 : (tokZ s i).err ≠ 0
         · rw [if_pos h5,if_pos h5]
         · rw [if_neg h5, if_neg h5]
           have h6 := qf4 (s := s) (i := i) (by omega) (by simpa using h5)
           exact qho s f g _ _ (by omega) (by omega)
def qdn (s : ByteArray) (i : Nat) (out : List Tok) : LexR := qbn s (s.size - i) i out
theorem qj9 {s : ByteArray} {i : Nat} {out : List Tok} (h : i < s.size) : qdn s i out =
   if kAt s i = 3 then qdn s (i + 1) out
   else if 4000 ≤ out.length then ⟨[],(vz s i).1,(vz s i).2,4⟩
   else if (tokZ s i).err ≠ 0 then ⟨[],(vz s i).1,(vz s i).2,(tokZ s i).err⟩
   else qdn s (tokZ s i).stop (out ++ [⟨(tokZ s i).kind,(tokZ s i).text,(vz s i).1,(vz s i).2⟩]) := by
 unfold qdn
 obtain ⟨f,hf⟩ : ∃ f,s.size - i = f + 1 := ⟨s.size - i - 1,by omega⟩
 rw [hf]
 conv => lhs; simp only [qbn]
 rw [if_neg (by omega)]
 by_cases h3 : kAt s i = 3
 · rw [if_pos h3,if_pos h3]; exact qho s _ _ _ _ (by omega) (by omega)
 · rw [if_neg h3, if_neg h3]
   by_cases h4 : 4000 ≤ out.length
   · rw [if_pos h4,if_pos h4]
   · rw [if_neg h4, if_neg h4]
     by_cases h5 : (tokZ s i).err ≠ 0
     · rw [if_pos h5,if_pos h5]
     · rw [if_neg h5, if_neg h5]
       have h6 := qf4 (s := s) (i := i) (by omega) (by simpa using h5)
       exact qho s _ _ _ _ (by omega) (by omega)
theorem qyt {s : ByteArray} (h : s.size ≤ 60000) : lexZ s = qdn s 0 [] := by unfold lexZ; rw [if_neg (by omega)]; rfl
end Go.Tw
namespace Go.Proofs.YtoincnplajnpnaaGreat
open Go Go.Tw
theorem qyu (n n' b0 b1 b2 b3 c1 c2 c3 : Nat) (hn : n' ≤ n) (hw : (Lib.decodeN n b0 b1 b2 b3).2 ≤ n') (h1 : 1 < n' → c1 = b1) (h2 : 2 < n' → c2 = b2) (h3 : 3 < n' → c3 = b3) :
   Lib.decodeN n' b0 c1 c2 c3 = Lib.decodeN n b0 b1 b2 b3 := by
 unfold Lib.decodeN at hw ⊢
 by_cases g0 : b0 < 128
 · simp only [if_pos g0]
 · simp only [if_neg g0] at hw ⊢
   by_cases g1 : b0 / 32 = 6 ∧ (1 < n ∧ b1 / 64 = 2)
   · rw [if_pos g1] at hw ⊢
     by_cases k1 : 1 < n'
     · rw [h1 k1,if_pos ⟨g1.1,k1,g1.2.2⟩]
     · rw [if_neg (by omega), if_neg (by omega), if_neg (by omega)]
       split at hw
       · simp only at hw; omega
       · rename_i hx; rw [if_neg hx]
   · rw [if_neg g1] at hw ⊢
     have q1 : ¬ (b0 / 32 = 6 ∧ (1 < n' ∧ c1 / 64 = 2)) := by
       by_cases k1 : 1 < n'
       · rw [h1 k1]; omega
       · omega
     rw [if_neg q1]
     by_cases g2 : b0 / 16 = 14 ∧ (1 < n ∧ b1 / 64 = 2) ∧ (2 < n ∧ b2 / 64 = 2)
     · rw [if_pos g2] at hw ⊢
       by_cases k2 : 2 < n'
       · rw [h1 (by omega),h2 k2,if_pos ⟨g2.1,⟨by omega,g2.2.1.2⟩,k2,g2.2.2.2⟩]
       · rw [if_neg (by omega), if_neg (by omega)]
         split at hw
         · simp only at hw; omega
         · rename_i hx; rw [if_neg hx]
     · rw [if_neg g2] at hw ⊢
       have q2 : ¬ (b0 / 16 = 14 ∧ (1 < n' ∧ c1 / 64 = 2) ∧ (2 < n' ∧ c2 / 64 = 2)) := by
         by_cases k2 : 2 < n'
         · rw [h1 (by omega),h2 k2]; omega
         · omega
       rw [if_neg q2]
       by_cases g3 : b0 / 8 = 30 ∧ (1 < n ∧ b1 / 64 = 2) ∧ (2 < n ∧ b2 / 64 = 2) ∧ (3 < n ∧ b3 / 64 = 2)
       · rw [if_pos g3] at hw ⊢
         by_cases k3 : 3 < n'
         · rw [h1 (by omega),h2 (by omega),h3 k3,if_pos ⟨g3.1,⟨by omega,g3.2.1.2⟩,⟨by omega,g3.2.2.1.2⟩,k3,g3.2.2.2.2⟩]
         · rw [if_neg (by omega)]
           split at hw
           · simp only at hw; omega
           · rename_i hx; rw [if_neg hx]
       · rw [if_neg g3]
         rw [if_neg]
         by_cases k3 : 3 < n'
         · rw [h1 (by omega),h2 (by omega),h3 k3]; omega
         · omega
theorem qf5 (s : ByteArray) (a b j : Nat) (hb : b ≤ s.size) (hj : a + j < b) : (s.extract a b).get! j = s.get! (a + j) := by
 have h1 : j < (s.extract a b).data.size := by show j < (s.extract a b).size; rw [ByteArray.size_extract]; omega
 have h2 : a + j < s.data.size := by show a + j < s.size; omega
 show (s.extract a b).data[j]! = s.data[a + j]!
 rw [getElem!_pos (s.extract a b).data j h1,getElem!_pos s.data (a + j) h2]
 simp
theorem qpv (s : ByteArray) (a b j : Nat) (hb : b ≤ s.size) (hj : a + j < b) (hw : a + j + (Utf8.decode s (a + j)).2 ≤ b) : Utf8.decode (s.extract a b) j = Utf8.decode s (a + j) := by
 have hs : (s.extract a b).size = b - a := by rw [ByteArray.size_extract]; omega
 rw [Lib.decode_at] at hw
 rw [Lib.decode_at,Lib.decode_at,qf5 s a b j hb hj,hs]
 refine qyu _ _ _ _ _ _ _ _ _ (by omega) (by omega) (fun h => ?_) (fun h => ?_) (fun h => ?_)
 · rw [qf5 s a b (j + 1) hb (by omega)]; rfl
 · rw [qf5 s a b (j + 2) hb (by omega)]; rfl
 · rw [qf5 s a b (j + 3) hb (by omega)]; rfl
theorem qyv {s : ByteArray} {b : Nat} (h : Hops s 0 b) : Rch s b (vz s b).1 (vz s b).2 := by
 have : ∃ l c,Rch s b l c := by
   induction h with
   | refl => exact ⟨1,1,Rch.start s⟩
   | @step i _ hi ih =>
     obtain ⟨l,c,hr⟩ := ih
     by_cases h10 : ((Utf8.decode s i).1 : Int) = 10
     · exact ⟨_,_,hr.step hi (.inl ⟨h10,rfl,rfl⟩)⟩
     · exact ⟨_,_,hr.step hi (.inr ⟨h10,rfl,rfl⟩)⟩
 obtain ⟨l,c,hr⟩ := this
 have hw := jq s b
 have e := hr.here (at_ := b) (Int.le_refl _) (by
   rcases Nat.lt_or_ge b s.size with h1 | h1
   · exact .inl (by omega)
   · exact .inr h1)
 rw [e]
 exact hr
theorem qhp {s : ByteArray} {i : Nat} (h : Hops s 0 i) (hi : i < s.size) : vz s (i + (Utf8.decode s i).2 : Nat) = if (Utf8.decode s i).1 = 10 then ((vz s i).1 + 1,1) else ((vz s i).1,(vz s i).2 + 1) := by
 have hr := qyv h
 have hw := jq s (i + (Utf8.decode s i).2)
 have hor : ((i + (Utf8.decode s i).2 : Nat) : Int) < ((i + (Utf8.decode s i).2 + (Utf8.decode s (i + (Utf8.decode s i).2)).2 : Nat) : Int) ∨ s.size ≤ i + (Utf8.decode s i).2 := .inl (by omega)
 by_cases h10 : (Utf8.decode s i).1 = 10
 · rw [if_pos h10]
   exact (hr.step hi (.inl ⟨by omega,rfl,rfl⟩)).here (Int.le_refl _) hor
 · rw [if_neg h10]
   exact (hr.step hi (.inr ⟨by omega,rfl,rfl⟩)).here (Int.le_refl _) hor
theorem qyw {s : ByteArray} {a B : Nat} (h0 : Hops s 0 a) (hB : B ≤ s.size) {b : Nat} (h : Hops s a b) : b ≤ B → (vz s a).1 ≤ (vz s b).1 ∧
   Rch (s.extract a B) (b - a) ((vz s b).1 - (vz s a).1 + 1) (if (vz s b).1 = (vz s a).1 then (vz s b).2 - (vz s a).2 + 1 else (vz s b).2) := by
 induction h with
 | refl =>
   intro _
   refine ⟨Int.le_refl _,?_⟩
   rw [if_pos rfl,Nat.sub_self,Int.sub_self,Int.sub_self]
   exact Rch.start _
 | @step i hs hi ih =>
   intro hb
   have hw := jq s i
   have hai := hs.ge
   obtain ⟨h1,hr⟩ := ih (by omega)
   have hsz : (s.extract a B).size = B - a := by rw [ByteArray.size_extract]; omega
   have hd : Utf8.decode (s.extract a B) (i - a) = Utf8.decode s i := by
     have := qpv s a B (i - a) hB (by omega) (by rw [show a + (i - a) = i by omega]; exact hb)
     rw [show a + (i - a) = i by omega] at this
     exact this
   have hp := qhp (h0.trans hs) hi
   have e : i + (Utf8.decode s i).2 - a = (i - a) + (Utf8.decode (s.extract a B) (i - a)).2 := by rw [hd]; omega
   rw [e]
   by_cases h10 : (Utf8.decode s i).1 = 10
   · rw [if_pos h10] at hp
     rw [hp]
     refine ⟨by show _ ≤ (vz s i).1 + 1; omega,?_⟩
     rw [if_neg (by show ¬ (vz s i).1 + 1 = _; omega)]
     exact hr.step (by omega) (.inl ⟨by rw [hd]; omega,by show (vz s i).1 + 1 - _ + 1 = _; omega,rfl⟩)
   · rw [if_neg h10] at hp
     rw [hp]
     refine ⟨h1,?_⟩;refine hr.step (by omega) (.inr ⟨by rw [hd]; omega,rfl,?_⟩)
     show (if (vz s i).1 = _ then (vz s i).2 + 1 - _ + 1 else (vz s i).2 + 1) = _
     split <;> omega
theorem qka {s : ByteArray} {i : Nat} (hi : i < s.size) (h : (tokZ s i).err = 0) : Hops s i (tokZ s i).stop := by
 unfold tokZ at h ⊢
 by_cases h1 : kAt s i = 1
 · rw [if_pos h1] at h ⊢
   split <;> exact qdm qah s s.size i (by omega) (by omega)
 · rw [if_neg h1] at h ⊢
   by_cases h2 : kAt s i = 2
   · rw [if_pos h2] at h ⊢
     have hn : Hops s i (ja s i) := by
       have hd := qdm vh s s.size i (by omega) (by omega)
       unfold ja
       split
       · rename_i hh
         have hstep := (Hops.refl (s := s) (a := vf vh s i)).step hh.1
         rw [Go.Tw.decode_ascii (s := s) (i := vf vh s i) (by omega)] at hstep
         exact (hd.trans hstep).trans (qdm vh s s.size _ (by omega) (by omega))
       · exact hd
     split
     · exact hn
     · split <;> exact hn
   · rw [if_neg h2] at h ⊢
     by_cases h3 : kAt s i = 4
     · rw [if_pos h3]; exact Hops.refl.step hi
     · rw [if_neg h3]; exact Hops.refl
end Go.Proofs.YtoincnplajnpnaaGreat
namespace Go.Tw
open Go
structure NodeC where
 kind : Int
 a : Int
 b : Int
 e : Int
 name : ByteArray
 neg : Bool
 n : List Nat
 d : List Nat
structure qk where
 c : NodeC
 vn : Value
 vd : Value
def qk.cells (o : qk) : List Value := [.int .i64 o.c.kind,.int .i64 o.c.a,.int .i64 o.c.b,.int .i64 o.c.e,.string o.c.name,.bool o.c.neg,o.vn,o.vd]
def qk.ok (I : Hp) (o : qk) : Prop := Ws I o.vn o.c.n ∧ Ws I o.vd o.c.d
theorem qk.ok.le {I I' : Hp} {o : qk} (h : o.ok I) (hl : I.Le I') : o.ok I' := ⟨h.1.le hl,h.2.le hl⟩
def nds (ns : List qk) : List (List Value) := ns.map qk.cells
structure LetC where
 name : ByteArray
 root : Int
def LetC.cells (l : LetC) : List Value := [.string l.name,.int .i64 l.root]
structure qx where
 ins : List ByteArray
 lets : List LetC
 outs : List ByteArray
 all : List NodeC
def scs (l : List ByteArray) : List (List Value) := l.map fun s => [.string s]
structure y5 (I : Hp) (vi vl vo va : Value) (p : qx) (ns : List qk) : Prop where
 si : Slc I 1 vi (scs p.ins)
 sl : Slc I 2 vl (p.lets.map LetC.cells)
 so : Slc I 1 vo (scs p.outs)
 sa : Slc I 8 va (nds ns)
 ok : ∀ o ∈ ns,o.ok I
 eq : ns.map qk.c = p.all
theorem y5.le {I I' : Hp} {vi vl vo va : Value} {p : qx} {ns : List qk} (h : y5 I vi vl vo va p ns) (hl : I.Le I') : y5 I' vi vl vo va p ns :=
 ⟨h.si.le hl,h.sl.le hl,h.so.le hl,h.sa.le hl,fun o ho => (h.ok o ho).le hl,h.eq⟩
def isT (x : Tok) (k : Int) (t : ByteArray) : Bool := x.kind == k && x.text.toList == t.toList
def hdT : List Tok → Int → ByteArray → Bool
 | [],_,_ => false
 | x :: _,k,t => isT x k t
def lpar : ByteArray := ⟨#[40]⟩
def rpar : ByteArray := ⟨#[41]⟩
def caret : ByteArray := ⟨#[94]⟩
def zh : ByteArray := ⟨#[45]⟩
def qkb : ByteArray := ⟨#[43]⟩
def qhq : ByteArray := ⟨#[42]⟩
def qhr : ByteArray := ⟨#[47]⟩
def qdo : ByteArray := ⟨#[59]⟩
def qyx : ByteArray := ⟨#[44]⟩
def qf6 : ByteArray := ⟨#[61]⟩
def inS : ByteArray := ⟨#[105,110]⟩
def letS : ByteArray := ⟨#[108,101,116]⟩
def outS : ByteArray := ⟨#[111,117,116]⟩
def decN (s : List UInt8) : Nat := s.foldl (fun n b => 10 * n + (b.toNat - 48)) 0
def numQ (s : ByteArray) : Rat := mkRat ((decN (s.extract 0 (cutZ s)).toList : Nat) : Int) (if cutZ s = s.size then 1 else decN (s.extract (cutZ s + 1) s.size).toList)
def numN (q : Rat) : NodeC := ⟨1,0,0,0,⟨#[]⟩,decide (q.num < 0),natW q.num.natAbs,natW q.den⟩
def refN (t : ByteArray) : NodeC := ⟨0,0,0,0,t,false,[],[]⟩
def negN (a : Int) : NodeC := ⟨6,a,0,0,⟨#[]⟩,false,[],[]⟩
def powN (a e : Int) : NodeC := ⟨7,a,0,e,⟨#[]⟩,false,[],[]⟩
def binN (k a b : Int) : NodeC := ⟨k,a,b,0,⟨#[]⟩,false,[],[]⟩
def jc (all : List NodeC) : Int := (all.length : Int) - 1
def qbo (s : ByteArray) : Option Nat :=
 if s.size = 1 then some (decN s.toList)
 else if s.size = 2 ∧ (s.get! 1).toNat ≠ 124 ∧ decN s.toList ≤ 20 then some (decN s.toList)
 else none
inductive Lv where
 | atom | powL | power | factor | prodL | product | sumL | sum
inductive POut where
 | bad (r : List Tok)
 | ok (all : List NodeC) (r : List Tok)
inductive Expo : List Tok → Option Int → List Tok → Prop
 | neg {x y : Tok} {r : List Tok} {n : Nat} : isT x 2 zh = true → y.kind = 1 → qbo y.text = some n → Expo (x :: y :: r) (some (-(n : Int))) r
 | neg_end {x : Tok} : isT x 2 zh = true → Expo [x] none []
 | neg_bad {x y : Tok} {r : List Tok} : isT x 2 zh = true → (y.kind = 1 → qbo y.text = none) → Expo (x :: y :: r) none (y :: r)
 | pos {y : Tok} {r : List Tok} {n : Nat} : isT y 2 zh = false → y.kind = 1 → qbo y.text = some n → Expo (y :: r) (some (n : Int)) r
 | pos_end : Expo [] none []
 | pos_bad {y : Tok} {r : List Tok} : isT y 2 zh = false → (y.kind = 1 → qbo y.text = none) → Expo (y :: r) none (y :: r)
def qhs (x : Tok) : Bool := x.kind == 1 || (x.kind == 0 && yk x.text)
def qpw (x : Tok) : NodeC := if x.kind = 1 then numN (numQ x.text) else refN x.text
def mulK (x : Tok) : Option Int := if isT x 2 qhq then some 4 else if isT x 2 qhr then some 5 else none
def addK (x : Tok) : Option Int := if isT x 2 qkb then some 2 else if isT x 2 zh then some 3 else none
def hdK (f : Tok → Option Int) : List Tok → Option Int
 | [] => none
 | x :: _ => f x
inductive Ps : Lv → List NodeC → List Tok → POut → Prop
 | par_bad {all : List NodeC} {x : Tok} {r r1 : List Tok} : isT x 2 lpar = true → Ps .sum all r (.bad r1) → Ps .atom all (x :: r) (.bad r1)
 | par_ok {all a1 : List NodeC} {x y : Tok} {r r1 : List Tok} : isT x 2 lpar = true → Ps .sum all r (.ok a1 (y :: r1)) → isT y 2 rpar = true → Ps .atom all (x :: r) (.ok a1 r1)
 | par_no {all a1 : List NodeC} {x : Tok} {r r1 : List Tok} : isT x 2 lpar = true → Ps .sum all r (.ok a1 r1) → hdT r1 2 rpar = false → Ps .atom all (x :: r) (.bad r1)
 | leaf {all : List NodeC} {x : Tok} {r : List Tok} : qhs x = true → Ps .atom all (x :: r) (.ok (all ++ [qpw x]) r)
 | none {all : List NodeC} : Ps .atom all [] (.bad [])
 | no {all : List NodeC} {x : Tok} {r : List Tok} : isT x 2 lpar = false → qhs x = false → Ps .atom all (x :: r) (.bad (x :: r))
 | pow_none {all : List NodeC} {r : List Tok} : hdT r 2 caret = false → Ps .powL all r (.ok all r)
 | pow_ok {all : List NodeC} {x : Tok} {r r1 : List Tok} {e : Int} : isT x 2 caret = true → Expo r (some e) r1 → Ps .powL all (x :: r) (.ok (all ++ [powN (jc all) e]) r1)
 | pow_bad {all : List NodeC} {x : Tok} {r r1 : List Tok} : isT x 2 caret = true → Expo r none r1 → Ps .powL all (x :: r) (.bad r1)
 | power_bad {all : List NodeC} {r r1 : List Tok} : Ps .atom all r (.bad r1) → Ps .power all r (.bad r1)
 | power_ok {all a1 : List NodeC} {r r1 : List Tok} {o : POut} : Ps .atom all r (.ok a1 r1) → Ps .powL a1 r1 o → Ps .power all r o
 | neg_bad {all : List NodeC} {x : Tok} {r r1 : List Tok} : isT x 2 zh = true → Ps .factor all r (.bad r1) → Ps .factor all (x :: r) (.bad r1)
 | neg_ok {all a1 : List NodeC} {x : Tok} {r r1 : List Tok} : isT x 2 zh = true → Ps .factor all r (.ok a1 r1) → Ps .factor all (x :: r) (.ok (a1 ++ [negN (jc a1)]) r1)
 | fac {all : List NodeC} {r : List Tok} {o : POut} : hdT r 2 zh = false → Ps .power all r o → Ps .factor all r o
 | prodL_end {all : List NodeC} {r : List Tok} : hdK mulK r = .none → Ps .prodL all r (.ok all r)
 | prodL_bad {all : List NodeC} {x : Tok} {r r1 : List Tok} {k : Int} : mulK x = some k → Ps .factor all r (.bad r1) → Ps .prodL all (x :: r) (.bad r1)
 | prodL_ok {all a1 : List NodeC} {x : Tok} {r r1 : List Tok} {k : Int} {o : POut} : mulK x = some k → Ps .factor all r (.ok a1 r1) → Ps .prodL (a1 ++ [binN k (jc all) (jc a1)]) r1 o → Ps .prodL all (x :: r) o
 | product_bad {all : List NodeC} {r r1 : List Tok} : Ps .factor all r (.bad r1) → Ps .product all r (.bad r1)
 | product_ok {all a1 : List NodeC} {r r1 : List Tok} {o : POut} : Ps .factor all r (.ok a1 r1) → Ps .prodL a1 r1 o → Ps .product all r o
 | sumL_end {all : List NodeC} {r : List Tok} : hdK addK r = .none → Ps .sumL all r (.ok all r)
 | sumL_bad {all : List NodeC} {x : Tok} {r r1 : List Tok} {k : Int} : addK x = some k → Ps .product all r (.bad r1) → Ps .sumL all (x :: r) (.bad r1)
 | sumL_ok {all a1 : List NodeC} {x : Tok} {r r1 : List Tok} {k : Int} {o : POut} : addK x = some k → Ps .product all r (.ok a1 r1) → Ps .sumL (a1 ++ [binN k (jc all) (jc a1)]) r1 o → Ps .sumL all (x :: r) o
 | sum_bad {all : List NodeC} {r r1 : List Tok} : Ps .product all r (.bad r1) → Ps .sum all r (.bad r1)
 | sum_ok {all a1 : List NodeC} {r r1 : List Tok} {o : POut} : Ps .product all r (.ok a1 r1) → Ps .sumL a1 r1 o → Ps .sum all r o
def Lv.need : Lv → Nat
 | .powL => 0
 | .prodL => 0
 | .sumL => 0
 | _ => 1
def POut.fits (n : Nat) (m : Nat) : POut → Prop
 | .bad r => r.length ≤ n
 | .ok _ r => r.length + m ≤ n
theorem Expo.len {r r1 : List Tok} {e : Option Int} (h : Expo r e r1) : r1.length ≤ r.length := by
 cases h <;> simp <;> omega
theorem Ps.len {lv : Lv} {all : List NodeC} {r : List Tok} {o : POut} (h : Ps lv all r o) : o.fits r.length lv.need := by
 induction h with
 | par_bad _ _ ih => simp only [POut.fits,List.length_cons] at *; omega
 | par_ok _ _ _ ih => simp only [POut.fits,List.length_cons,Lv.need] at *; omega
 | par_no _ _ _ ih => simp only [POut.fits,List.length_cons,Lv.need] at *; omega
 | leaf _ => simp only [POut.fits,List.length_cons,Lv.need]; omega
 | none => simp [POut.fits]
 | no _ _ => simp [POut.fits]
 | pow_none _ => simp [POut.fits,Lv.need]
 | pow_ok _ h => have := h.len; simp only [POut.fits,List.length_cons,Lv.need]; omega
 | pow_bad _ h => have := h.len; simp only [POut.fits,List.length_cons]; omega
 | power_bad _ ih => exact ih
 | @power_ok all a1 r r1 o _ _ ih1 ih2 => cases o <;> simp only [POut.fits,Lv.need] at * <;> omega
 | neg_bad _ _ ih => simp only [POut.fits,List.length_cons] at *; omega
 | neg_ok _ _ ih => simp only [POut.fits,List.length_cons,Lv.need] at *; omega
 | fac _ _ ih => exact ih
 | prodL_end _ => simp [POut.fits,Lv.need]
 | prodL_bad _ _ ih => simp only [POut.fits,List.length_cons] at *; omega
 | @prodL_ok all a1 x r r1 k o _ _ _ ih1 ih2 => cases o <;> simp only [POut.fits,List.length_cons,Lv.need] at * <;> omega
 | product_bad _ ih => exact ih
 | @product_ok all a1 r r1 o _ _ ih1 ih2 => cases o <;> simp only [POut.fits,Lv.need] at * <;> omega
 | sumL_end _ => simp [POut.fits,Lv.need]
 | sumL_bad _ _ ih => simp only [POut.fits,List.length_cons] at *; omega
 | @sumL_ok all a1 x r r1 k o _ _ _ ih1 ih2 => cases o <;> simp only [POut.fits,List.length_cons,Lv.need] at * <;> omega
 | sum_bad _ ih => exact ih
 | @sum_ok all a1 r r1 o _ _ ih1 ih2 => cases o <;> simp only [POut.fits,Lv.need] at * <;> omega
theorem Expo.some_out (r : List Tok) : ∃ e r1,Expo r e r1 := by
 cases r with
 | nil => exact ⟨_,_,.pos_end⟩
 | cons x r =>
   cases hx : isT x 2 zh with
   | true =>
     cases r with
     | nil => exact ⟨_,_,.neg_end hx⟩
     | cons y r =>
       by_cases hy : y.kind = 1
       · cases he : qbo y.text with
         | some n => exact ⟨_,_,.neg hx hy he⟩
         | none => exact ⟨_,_,.neg_bad hx fun _ => he⟩
       · exact ⟨_,_,.neg_bad hx fun h => absurd h hy⟩
   | false =>
     by_cases hy : x.kind = 1
     · cases he : qbo x.text with
       | some n => exact ⟨_,_,.pos hx hy he⟩
       | none => exact ⟨_,_,.pos_bad hx fun _ => he⟩
     · exact ⟨_,_,.pos_bad hx fun h => absurd h hy⟩
theorem Ps.pow_out (all : List NodeC) (r : List Tok) : ∃ o,Ps .powL all r o := by
 cases r with
 | nil => exact ⟨_,.pow_none rfl⟩
 | cons x r =>
   cases hx : isT x 2 caret with
   | false => exact ⟨_,.pow_none hx⟩
   | true =>
     obtain ⟨e,r1,he⟩ := Expo.some_out r
     cases e with
     | some e => exact ⟨_,.pow_ok hx he⟩
     | none => exact ⟨_,.pow_bad hx he⟩
theorem Ps.outs : ∀ (n : Nat) (r : List Tok),r.length ≤ n → (∀ all,∃ o,Ps .factor all r o) ∧ (∀ all,∃ o,Ps .prodL all r o) ∧ (∀ all,∃ o,Ps .sumL all r o) ∧ (∀ all,∃ o,Ps .product all r o) ∧ (∀ all,∃ o,Ps .sum all r o) := by
 intro n
 induction n with
 | zero =>
   intro r hr
   obtain rfl : r = [] := List.length_eq_zero_iff.1 (by omega)
   have hf : ∀ all,Ps .factor all [] (.bad []) := fun all => .fac rfl (.power_bad .none)
   exact ⟨fun all => ⟨_,hf all⟩,fun all => ⟨_,.prodL_end rfl⟩,fun all => ⟨_,.sumL_end rfl⟩,fun all => ⟨_,.product_bad (hf all)⟩,fun all => ⟨_,.sum_bad (.product_bad (hf all))⟩⟩
 | succ n ih =>
   intro r hr
   have ihl : ∀ r1 : List Tok,r1.length < r.length → r1.length ≤ n := fun r1 h => by omega
   have hatom : ∀ all, ∃ o, Ps .atom all r o := fun all => by
     cases r with
     | nil => exact ⟨_,.none⟩
     | cons x r =>
       cases hx : isT x 2 lpar with
       | true =>
         obtain ⟨o,ho⟩ := (ih r (ihl r (by simp))).2.2.2.2 all
         cases o with
         | bad r1 => exact ⟨_,.par_bad hx ho⟩
         | ok a1 r1 =>
           cases r1 with
           | nil => exact ⟨_,.par_no hx ho rfl⟩
           | cons y r1 =>
             cases hy : isT y 2 rpar with
             | true => exact ⟨_,.par_ok hx ho hy⟩
             | false => exact ⟨_,.par_no hx ho hy⟩
       | false =>
         cases hl : qhs x with
         | true => exact ⟨_,.leaf hl⟩
         | false => exact ⟨_,.no hx hl⟩
   have hpower : ∀ all, ∃ o, Ps .power all r o := fun all => by
     obtain ⟨o,ho⟩ := hatom all
     cases o with
     | bad r1 => exact ⟨_,.power_bad ho⟩
     | ok a1 r1 =>
       obtain ⟨o,ho2⟩ := Ps.pow_out a1 r1
       exact ⟨_,.power_ok ho ho2⟩
   have hfactor : ∀ all, ∃ o, Ps .factor all r o := fun all => by
     cases hm : hdT r 2 zh with
     | false => obtain ⟨o,ho⟩ := hpower all; exact ⟨_,.fac hm ho⟩
     | true =>
       cases r with
       | nil => cases hm
       | cons x r =>
         obtain ⟨o,ho⟩ := (ih r (ihl r (by simp))).1 all
         cases o with
         | bad r1 => exact ⟨_,.neg_bad hm ho⟩
         | ok a1 r1 => exact ⟨_,.neg_ok hm ho⟩
   have hprodL : ∀ all, ∃ o, Ps .prodL all r o := fun all => by
     cases hm : hdK mulK r with
     | none => exact ⟨_,.prodL_end hm⟩
     | some k =>
       cases r with
       | nil => cases hm
       | cons x r =>
         obtain ⟨o,ho⟩ := (ih r (ihl r (by simp))).1 all
         cases o with
         | bad r1 => exact ⟨_,.prodL_bad hm ho⟩
         | ok a1 r1 =>
           have hl := ho.len
           simp only [POut.fits,Lv.need] at hl
           obtain ⟨o,ho2⟩ := (ih r1 (ihl r1 (by simp; omega))).2.1 (a1 ++ [binN k (jc all) (jc a1)])
           exact ⟨_,.prodL_ok hm ho ho2⟩
   have hproduct : ∀ all, ∃ o, Ps .product all r o := fun all => by
     obtain ⟨o,ho⟩ := hfactor all
     cases o with
     | bad r1 => exact ⟨_,.product_bad ho⟩
     | ok a1 r1 =>
       have hl := ho.len
       simp only [POut.fits,Lv.need] at hl
       obtain ⟨o,ho2⟩ := (ih r1 (ihl r1 (by omega))).2.1 a1
       exact ⟨_,.product_ok ho ho2⟩
   have hsumL : ∀ all, ∃ o, Ps .sumL all r o := fun all => by
     cases hm : hdK addK r with
     | none => exact ⟨_,.sumL_end hm⟩
     | some k =>
       cases r with
       | nil => cases hm
       | cons x r =>
         obtain ⟨o,ho⟩ := (ih r (ihl r (by simp))).2.2.2.1 all
         cases o with
         | bad r1 => exact ⟨_,.sumL_bad hm ho⟩
         | ok a1 r1 =>
           have hl := ho.len
           simp only [POut.fits,Lv.need] at hl
           obtain ⟨o,ho2⟩ := (ih r1 (ihl r1 (by simp; omega))).2.2.1 (a1 ++ [binN k (jc all) (jc a1)])
           exact ⟨_,.sumL_ok hm ho ho2⟩
   refine ⟨hfactor,hprodL,hsumL,hproduct,fun all => ?_⟩
   obtain ⟨o,ho⟩ := hproduct all
   cases o with
   | bad r1 => exact ⟨_,.sum_bad ho⟩
   | ok a1 r1 =>
     have hl := ho.len
     simp only [POut.fits,Lv.need] at hl
     obtain ⟨o,ho2⟩ := (ih r1 (ihl r1 (by omega))).2.2.1 a1
     exact ⟨_,.sum_ok ho ho2⟩
theorem Ps.sum_out (all : List NodeC) (r : List Tok) : ∃ o,Ps .sum all r o := (Ps.outs r.length r (Nat.le_refl _)).2.2.2.2 all
inductive Fr where
 | neg
 | br
 | bin (k a : Int)
def POut.then_ (q : POut) (o : POut) (f : List NodeC → List Tok → Prop) : Prop := match q with
 | .bad r => o = .bad r
 | .ok a r => f a r
def RunM : List Fr → Bool → List NodeC → List Tok → POut → Prop
 | [], true, all, r, o => ∃ q, Ps .prodL all r q ∧ q.then_ o fun a1 r1 => ∃ q2, Ps .sumL a1 r1 q2 ∧ q2.then_ o fun a2 r2 => match r2 with
     | y :: r3 => if isT y 2 qdo then o = .ok a2 r3 else o = .bad r2
     | [] => o = .bad []
 | [], false, all, r, o => ∃ q2, Ps .sumL all r q2 ∧ q2.then_ o fun a2 r2 => match r2 with
     | y :: r3 => if isT y 2 qdo then o = .ok a2 r3 else o = .bad r2
     | [] => o = .bad []
 | .br :: K, true, all, r, o => ∃ q, Ps .prodL all r q ∧ q.then_ o fun a1 r1 => ∃ q2, Ps .sumL a1 r1 q2 ∧ q2.then_ o fun a2 r2 => match r2 with
     | y :: r3 => if isT y 2 rpar then ∃ q3,Ps .powL a2 r3 q3 ∧ q3.then_ o fun a3 r4 => RunM K true a3 r4 o else o = .bad r2
     | [] => o = .bad []
 | .br :: K, false, all, r, o => ∃ q2, Ps .sumL all r q2 ∧ q2.then_ o fun a2 r2 => match r2 with
     | y :: r3 => if isT y 2 rpar then ∃ q3,Ps .powL a2 r3 q3 ∧ q3.then_ o fun a3 r4 => RunM K true a3 r4 o else o = .bad r2
     | [] => o = .bad []
 | .neg :: K,true,all,r,o => RunM K true (all ++ [negN (jc all)]) r o
 | .neg :: _,false,_,_,_ => False
 | .bin k a :: K, true, all, r, o => if 4 ≤ k then RunM K true (all ++ [binN k a (jc all)]) r o
     else ∃ q,Ps .prodL all r q ∧ q.then_ o fun a1 r1 => RunM K false (a1 ++ [binN k a (jc a1)]) r1 o
 | .bin _ _ :: _,false,_,_,_ => False
def RunE (K : List Fr) (all : List NodeC) (r : List Tok) (o : POut) : Prop := ∃ q,Ps .factor all r q ∧ q.then_ o fun a1 r1 => RunM K true a1 r1 o
def RunA (K : List Fr) (all : List NodeC) (r : List Tok) (o : POut) : Prop := ∃ q,Ps .powL all r q ∧ q.then_ o fun a1 r1 => RunM K true a1 r1 o
def qht (k : Int) : Int := if k = 6 then 3 else if 4 ≤ k then 2 else 1
def yu (b : Int) : List Fr → List NodeC → List Fr × List NodeC
 | [],all => ([],all)
 | .br :: K,all => (.br :: K,all)
 | .neg :: K,all => if b ≤ 3 then yu b K (all ++ [negN (jc all)]) else (.neg :: K,all)
 | .bin k a :: K,all => if b ≤ qht k then yu b K (all ++ [binN k a (jc all)]) else (.bin k a :: K,all)
def FrOk : List Fr → Prop
 | [] => True
 | .bin k _ :: K => 2 ≤ k ∧ k ≤ 5 ∧ FrOk K
 | _ :: K => FrOk K
theorem qhu {x : Tok} {k : Int} {t : ByteArray} : isT x k t = true ↔ x.kind = k ∧ x.text = t := by
 unfold isT
 rw [Bool.and_eq_true,beq_iff_eq,beq_iff_eq]
 constructor
 · rintro ⟨h1, h2⟩
   refine ⟨h1,?_⟩
   have := Array.toList_inj.1 (by simpa [ByteArray.toList_eq] using h2)
   cases hx : x.text
   cases t
   simp_all
 · rintro ⟨h1, h2⟩
   exact ⟨h1,by rw [h2]⟩
theorem isT_no {x : Tok} {k k' : Int} {t t' : ByteArray} (h : isT x k t = true) (hn : ¬ (k = k' ∧ t = t')) : isT x k' t' = false := by
 cases hb : isT x k' t' with
 | false => rfl
 | true => exact absurd ⟨(qhu.1 h).1.symm.trans (qhu.1 hb).1,(qhu.1 h).2.symm.trans (qhu.1 hb).2⟩ hn
theorem Expo.det {r r1 r2 : List Tok} {e e' : Option Int} (h : Expo r e r1) (h' : Expo r e' r2) : e = e' ∧ r1 = r2 := by
 cases h <;> cases h' <;> simp_all
theorem RunE.power {K : List Fr} {all : List NodeC} {r : List Tok} {o : POut} (h : RunE K all r o) (hx : hdT r 2 zh = false) : ∃ q,Ps .atom all r q ∧ q.then_ o fun a1 r1 => RunA K a1 r1 o := by
 obtain ⟨q,hq,ho⟩ := h
 cases hq with
 | neg_bad h0 _ => simp only [hdT] at hx; exact absurd h0 (by simp [hx])
 | neg_ok h0 _ => simp only [hdT] at hx; exact absurd h0 (by simp [hx])
 | fac _ h1 =>
   cases h1 with
   | power_bad h => exact ⟨_,h,ho⟩
   | power_ok h1 h2 => exact ⟨_,h1,_,h2,ho⟩
theorem RunE.leaf {K : List Fr} {all : List NodeC} {x : Tok} {r : List Tok} {o : POut} (h : RunE K all (x :: r) o) (h0 : isT x 2 zh = false) (h1 : isT x 2 lpar = false) : if qhs x then RunA K (all ++ [qpw x]) r o else o = .bad (x :: r) := by
 obtain ⟨q,hq,ho⟩ := h.power h0
 cases hq with
 | par_bad hx _ => exact absurd hx (by simp [h1])
 | par_ok hx _ _ => exact absurd hx (by simp [h1])
 | par_no hx _ _ => exact absurd hx (by simp [h1])
 | leaf hl => rw [if_pos hl]; exact ho
 | no _ hl => rw [if_neg (by simp [hl])]; exact ho
theorem RunE.nil {K : List Fr} {all : List NodeC} {o : POut} (h : RunE K all [] o) : o = .bad [] := by
 obtain ⟨q,hq,ho⟩ := h.power rfl
 cases hq
 exact ho
theorem RunA.caret {K : List Fr} {all : List NodeC} {x : Tok} {r r1 : List Tok} {o : POut} {e : Option Int} (h : RunA K all (x :: r) o) (hx : isT x 2 Go.Tw.caret = true) (he : Expo r e r1) : match e with
   | some e => RunM K true (all ++ [powN (jc all) e]) r1 o
   | none => o = .bad r1 := by
 obtain ⟨q,hq,ho⟩ := h
 cases hq with
 | pow_none h0 => simp only [hdT] at h0; exact absurd hx (by simp [h0])
 | pow_ok _ h1 => obtain ⟨rfl,rfl⟩ := h1.det he; exact ho
 | pow_bad _ h1 => obtain ⟨rfl,rfl⟩ := h1.det he; exact ho
theorem RunA.none {K : List Fr} {all : List NodeC} {r : List Tok} {o : POut} (h : RunA K all r o) (hx : hdT r 2 Go.Tw.caret = false) : RunM K true all r o := by
 obtain ⟨q,hq,ho⟩ := h
 cases hq with
 | pow_none _ => exact ho
 | pow_ok h0 _ => simp only [hdT] at hx; exact absurd h0 (by simp [hx])
 | pow_bad h0 _ => simp only [hdT] at hx; exact absurd h0 (by simp [hx])
theorem qhv {k : Int} (h : 2 ≤ k ∧ k ≤ 5) : qht k = if 4 ≤ k then 2 else 1 := by unfold qht; rw [if_neg (by omega)]
theorem RunM.fold {b : Int} (hb : b = 3 ∨ b = 2) {r : List Tok} {o : POut} : ∀ {K : List Fr} {all : List NodeC}, FrOk K → RunM K true all r o → RunM (yu b K all).1 true (yu b K all).2 r o
 | [],_,_,h => h
 | .br :: K,_,_,h => h
 | .neg :: K, all, hK, h => by
   unfold yu
   rw [if_pos (by omega)]
   exact RunM.fold hb (K := K) hK h
 | .bin k a :: K, all, hK, h => by
   unfold yu
   have hk := qhv ⟨hK.1,hK.2.1⟩
   by_cases h4 : 4 ≤ k
   · rw [if_pos h4] at hk
     rw [hk]
     split
     · unfold RunM at h
       rw [if_pos h4] at h
       exact RunM.fold hb (K := K) hK.2.2 h
     · exact h
   · rw [if_neg h4] at hk
     rw [hk,if_neg (by omega)]
     exact h
theorem Ps.prodL_fin {all : List NodeC} {r : List Tok} {q : POut} (h : Ps .prodL all r q) (hm : hdK mulK r = Option.none) : q = .ok all r := by
 cases h with
 | prodL_end _ => rfl
 | prodL_bad h0 _ => simp only [hdK] at hm; rw [hm] at h0; cases h0
 | prodL_ok h0 _ _ => simp only [hdK] at hm; rw [hm] at h0; cases h0
theorem Ps.sumL_fin {all : List NodeC} {r : List Tok} {q : POut} (h : Ps .sumL all r q) (hm : hdK addK r = Option.none) : q = .ok all r := by
 cases h with
 | sumL_end _ => rfl
 | sumL_bad h0 _ => simp only [hdK] at hm; rw [hm] at h0; cases h0
 | sumL_ok h0 _ _ => simp only [hdK] at hm; rw [hm] at h0; cases h0
theorem RunM.fold_false {b : Int} {r : List Tok} {o : POut} {K : List Fr} {all : List NodeC} (h : RunM K false all r o) : yu b K all = (K,all) := by
 cases K with
 | nil => rfl
 | cons f K =>
   cases f with
   | br => rfl
   | neg => exact h.elim
   | bin k a => exact h.elim
theorem RunM.fold1 {b : Int} (hb : b = 1 ∨ b = 0) {r : List Tok} {o : POut} (hm : hdK mulK r = Option.none) : ∀ {K : List Fr} {all : List NodeC}, FrOk K → RunM K true all r o → RunM (yu b K all).1 false (yu b K all).2 r o
 | [], _, _, h => by
   obtain ⟨q,hq,ho⟩ := h
   rw [hq.prodL_fin hm] at ho
   exact ho
 | .br :: K, _, _, h => by
   obtain ⟨q,hq,ho⟩ := h
   rw [hq.prodL_fin hm] at ho
   exact ho
 | .neg :: K, all, hK, h => by
   unfold yu
   rw [if_pos (by omega)]
   exact RunM.fold1 hb hm (K := K) hK h
 | .bin k a :: K, all, hK, h => by
   unfold yu
   have hk := qhv ⟨hK.1,hK.2.1⟩
   rw [if_pos (by rw [hk]; split <;> omega)]
   unfold RunM at h
   by_cases h4 : 4 ≤ k
   · rw [if_pos h4] at h
     exact RunM.fold1 hb hm (K := K) hK.2.2 h
   · rw [if_neg h4] at h
     obtain ⟨q,hq,ho⟩ := h
     rw [hq.prodL_fin hm] at ho
     rw [RunM.fold_false ho]
     exact ho
theorem qhw {b : Int} (hb : b = 1 ∨ b = 0) : ∀ {K : List Fr} {all : List NodeC}, FrOk K → (yu b K all).1 = [] ∨ ∃ K', (yu b K all).1 = .br :: K'
 | [],_,_ => .inl rfl
 | .br :: K,_,_ => .inr ⟨_,rfl⟩
 | .neg :: K, all, hK => by
   unfold yu
   rw [if_pos (by omega)]
   exact qhw hb (K := K) hK
 | .bin k a :: K, all, hK => by
   unfold yu
   rw [if_pos (by rw [qhv ⟨hK.1,hK.2.1⟩]; split <;> omega)]
   exact qhw hb (K := K) hK.2.2
theorem qkc : ∀ {K : List Fr} {all : List NodeC}, FrOk K → (yu 2 K all).1 = [] ∨ (∃ K', (yu 2 K all).1 = .br :: K') ∨ ∃ k a K', (yu 2 K all).1 = .bin k a :: K' ∧ ¬ 4 ≤ k
 | [],_,_ => .inl rfl
 | .br :: K,_,_ => .inr (.inl ⟨_,rfl⟩)
 | .neg :: K, all, hK => by
   unfold yu
   rw [if_pos (by omega)]
   exact qkc (K := K) hK
 | .bin k a :: K, all, hK => by
   unfold yu
   have hk := qhv ⟨hK.1,hK.2.1⟩
   by_cases h4 : 4 ≤ k
   · rw [if_pos (by rw [hk, if_pos h4]; omega)]
     exact qkc (K := K) hK.2.2
   · rw [if_neg (by rw [hk, if_neg h4]; omega)]
     exact .inr (.inr ⟨_,_,_,rfl,h4⟩)
theorem qkd {all : List NodeC} {x : Tok} {r : List Tok} {k : Int} {q o : POut} {f : List NodeC → List Tok → Prop} (hx : mulK x = some k) (hq : Ps .prodL all (x :: r) q) (ho : q.then_ o f) :
   ∃ q,Ps .factor all r q ∧ q.then_ o fun a1 r1 => ∃ q,Ps .prodL (a1 ++ [binN k (jc all) (jc a1)]) r1 q ∧ q.then_ o f := by
 cases hq with
 | prodL_end h0 => simp only [hdK] at h0; rw [h0] at hx; cases hx
 | prodL_bad h0 h => rw [hx] at h0; cases h0; exact ⟨_,h,ho⟩
 | prodL_ok h0 h h2 => rw [hx] at h0; cases h0; exact ⟨_,h,_,h2,ho⟩
theorem qyy {x : Tok} {k : Int} (h : mulK x = some k) : 4 ≤ k ∧ k ≤ 5 := by
 unfold mulK at h
 split at h
 · cases h; decide
 · split at h
   · cases h; decide
   · cases h
theorem qyz {x : Tok} {k : Int} (h : addK x = some k) : 2 ≤ k ∧ k < 4 := by
 unfold addK at h
 split at h
 · cases h; decide
 · split at h
   · cases h; decide
   · cases h
theorem RunM.mul {K : List Fr} {all : List NodeC} {x : Tok} {r : List Tok} {k : Int} {o : POut} (hK : FrOk K) (h : RunM K true all (x :: r) o) (hx : mulK x = some k) : RunE (.bin k (jc (yu 2 K all).2) :: (yu 2 K all).1) (yu 2 K all).2 r o := by
 have h2 := RunM.fold (.inr rfl) hK h
 have h4 := qyy hx
 have step : ∀ {K : List Fr} {q f},Ps .prodL (yu 2 K all).2 (x :: r) q → q.then_ o f → True := fun _ _ => trivial
 rcases qkc (K := K) (all := all) hK with e | ⟨K',e⟩ | ⟨k',a',K',e,hk⟩
 · rw [e] at h2 ⊢
   obtain ⟨q,hq,ho⟩ := h2
   obtain ⟨q,hq,ho⟩ := qkd hx hq ho
   refine ⟨q,hq,?_⟩
   cases q with
   | bad r => exact ho
   | ok a1 r1 => show RunM _ _ _ _ _; unfold RunM; rw [if_pos h4.1]; exact ho
 · rw [e] at h2 ⊢
   obtain ⟨q,hq,ho⟩ := h2
   obtain ⟨q,hq,ho⟩ := qkd hx hq ho
   refine ⟨q,hq,?_⟩
   cases q with
   | bad r => exact ho
   | ok a1 r1 => show RunM _ _ _ _ _; unfold RunM; rw [if_pos h4.1]; exact ho
 · rw [e] at h2 ⊢
   unfold RunM at h2
   rw [if_neg hk] at h2
   obtain ⟨q,hq,ho⟩ := h2
   obtain ⟨q,hq,ho⟩ := qkd hx hq ho
   refine ⟨q,hq,?_⟩
   cases q with
   | bad r => exact ho
   | ok a1 r1 => show RunM _ _ _ _ _; unfold RunM; rw [if_pos h4.1]; unfold RunM; rw [if_neg hk]; exact ho
theorem qpx {all : List NodeC} {x : Tok} {r : List Tok} {k : Int} {q o : POut} {f : List NodeC → List Tok → Prop} (hx : addK x = some k) (hq : Ps .sumL all (x :: r) q) (ho : q.then_ o f) :
   ∃ q,Ps .factor all r q ∧ q.then_ o fun a1 r1 => ∃ q,Ps .prodL a1 r1 q ∧ q.then_ o fun a2 r2 => ∃ q,Ps .sumL (a2 ++ [binN k (jc all) (jc a2)]) r2 q ∧ q.then_ o f := by
 cases hq with
 | sumL_end h0 => simp only [hdK] at h0; rw [h0] at hx; cases hx
 | sumL_bad h0 h =>
   rw [hx] at h0; cases h0
   cases h with
   | product_bad h => exact ⟨_,h,ho⟩
   | product_ok h1 h2 => exact ⟨_,h1,_,h2,ho⟩
 | sumL_ok h0 h h3 =>
   rw [hx] at h0; cases h0
   cases h with
   | product_ok h1 h2 => exact ⟨_,h1,_,h2,_,h3,ho⟩
theorem qy0 {x : Tok} {k : Int} (h : addK x = some k) : mulK x = Option.none := by
 unfold addK at h
 split at h
 · rename_i h1
   unfold mulK
   rw [if_neg (by rw [isT_no h1 (by decide)]; decide),if_neg (by rw [isT_no h1 (by decide)]; decide)]
 · split at h
   · rename_i h1
     unfold mulK
     rw [if_neg (by rw [isT_no h1 (by decide)]; decide),if_neg (by rw [isT_no h1 (by decide)]; decide)]
   · cases h
theorem RunM.add {K : List Fr} {all : List NodeC} {x : Tok} {r : List Tok} {k : Int} {o : POut} (hK : FrOk K) (h : RunM K true all (x :: r) o) (hx : addK x = some k) : RunE (.bin k (jc (yu 1 K all).2) :: (yu 1 K all).1) (yu 1 K all).2 r o := by
 have h2 := RunM.fold1 (.inl rfl) (show hdK mulK (x :: r) = Option.none from qy0 hx) hK h
 have h4 := qyz hx
 rcases qhw (b := 1) (K := K) (all := all) (.inl rfl) hK with e | ⟨K',e⟩
 · rw [e] at h2 ⊢
   obtain ⟨q,hq,ho⟩ := h2
   obtain ⟨q,hq,ho⟩ := qpx hx hq ho
   refine ⟨q,hq,?_⟩
   cases q with
   | bad r => exact ho
   | ok a1 r1 => show RunM _ _ _ _ _; unfold RunM; rw [if_neg (by omega)]; exact ho
 · rw [e] at h2 ⊢
   obtain ⟨q,hq,ho⟩ := h2
   obtain ⟨q,hq,ho⟩ := qpx hx hq ho
   refine ⟨q,hq,?_⟩
   cases q with
   | bad r => exact ho
   | ok a1 r1 => show RunM _ _ _ _ _; unfold RunM; rw [if_neg (by omega)]; exact ho
theorem RunM.fin {K : List Fr} {all : List NodeC} {r : List Tok} {o : POut} (hK : FrOk K) (h : RunM K true all r o) (hm : hdK mulK r = Option.none) (ha : hdK addK r = Option.none) (hp : hdT r 2 rpar = false) :
   if (yu 0 K all).1 = [] ∧ hdT r 2 qdo = true then o = .ok (yu 0 K all).2 (r.drop 1) else o = .bad r := by
 have h2 := RunM.fold1 (b := 0) (.inr rfl) hm hK h
 rcases qhw (b := 0) (K := K) (all := all) (.inr rfl) hK with e | ⟨K',e⟩
 · rw [e] at h2 ⊢
   obtain ⟨q,hq,ho⟩ := h2
   rw [hq.sumL_fin ha] at ho
   simp only [POut.then_] at ho
   cases r with
   | nil => rw [if_neg (by simp [hdT])]; exact ho
   | cons y r => simpa [hdT] using ho
 · rw [e] at h2 ⊢
   obtain ⟨q,hq,ho⟩ := h2
   rw [hq.sumL_fin ha] at ho
   simp only [POut.then_] at ho
   rw [if_neg (by simp)]
   cases r with
   | nil => exact ho
   | cons y r => simp only [hdT] at hp; change (if isT y 2 rpar = true then _ else _) at ho; rw [if_neg (by simp [hp])] at ho; exact ho
def qcx (x : Tok) : Bool := x.kind == 0 && yk x.text
def hdN : List Tok → Bool
 | [] => false
 | x :: _ => qcx x
inductive NOut where
 | bad (r : List Tok)
 | ok (l : List ByteArray) (r : List Tok)
def NOut.cons (s : ByteArray) : NOut → NOut
 | .bad r => .bad r
 | .ok l r => .ok (s :: l) r
def qap : List Tok → NOut
 | [] => .bad []
 | [x] => .bad (if qcx x then [] else [x])
 | x :: y :: r => if qcx x then (if isT y 2 qyx then (qap r).cons x.text else if isT y 2 qdo then .ok [x.text] r else .bad (y :: r)) else .bad (x :: y :: r)
def NOut.fits (n : Nat) : NOut → Prop
 | .bad r => r.length ≤ n
 | .ok l r => r.length + 2 * l.length ≤ n ∧ 1 ≤ l.length
inductive LO where
 | bad (r : List Tok)
 | ok (name : ByteArray) (all : List NodeC) (r : List Tok)
inductive Lt1 : List NodeC → List Tok → LO → Prop
 | noname {all : List NodeC} {r : List Tok} : hdN r = false → Lt1 all r (.bad r)
 | noeq {all : List NodeC} {x : Tok} {r : List Tok} : qcx x = true → hdT r 2 qf6 = false → Lt1 all (x :: r) (.bad r)
 | sumbad {all : List NodeC} {x y : Tok} {r r1 : List Tok} : qcx x = true → isT y 2 qf6 = true → Ps .sum all r (.bad r1) → Lt1 all (x :: y :: r) (.bad r1)
 | nosemi {all a1 : List NodeC} {x y : Tok} {r r1 : List Tok} : qcx x = true → isT y 2 qf6 = true → Ps .sum all r (.ok a1 r1) → hdT r1 2 qdo = false → Lt1 all (x :: y :: r) (.bad r1)
 | ok {all a1 : List NodeC} {x y z : Tok} {r r1 : List Tok} : qcx x = true → isT y 2 qf6 = true → Ps .sum all r (.ok a1 (z :: r1)) → isT z 2 qdo = true → Lt1 all (x :: y :: r) (.ok x.text a1 r1)
inductive LSO where
 | bad (r : List Tok)
 | ok (ls : List LetC) (all : List NodeC) (r : List Tok)
inductive Lts : List LetC → List NodeC → List Tok → LSO → Prop
 | fin {ls : List LetC} {all : List NodeC} {r : List Tok} : hdT r 0 letS = false → Lts ls all r (.ok ls all r)
 | bad {ls : List LetC} {all : List NodeC} {x : Tok} {r r1 : List Tok} : isT x 0 letS = true → Lt1 all r (.bad r1) → Lts ls all (x :: r) (.bad r1)
 | more {ls : List LetC} {all a1 : List NodeC} {x : Tok} {n : ByteArray} {r r1 : List Tok} {o : LSO} : isT x 0 letS = true → Lt1 all r (.ok n a1 r1) → Lts (ls ++ [⟨n,jc a1⟩]) a1 r1 o → Lts ls all (x :: r) o
inductive PO where
 | bad (r : List Tok)
 | ok (p : qx)
inductive Prg : List Tok → PO → Prop
 | noin {r : List Tok} : hdT r 0 inS = false → Prg r (.bad r)
 | insbad {x : Tok} {r r1 : List Tok} : isT x 0 inS = true → qap r = .bad r1 → Prg (x :: r) (.bad r1)
 | letsbad {x : Tok} {r r1 r2 : List Tok} {ins : List ByteArray} : isT x 0 inS = true → qap r = .ok ins r1 → Lts [] [] r1 (.bad r2) → Prg (x :: r) (.bad r2)
 | noout {x : Tok} {r r1 r2 : List Tok} {ins : List ByteArray} {ls : List LetC} {all : List NodeC} : isT x 0 inS = true → qap r = .ok ins r1 → Lts [] [] r1 (.ok ls all r2) → hdT r2 0 outS = false → Prg (x :: r) (.bad r2)
 | outsbad {x y : Tok} {r r1 r2 r3 : List Tok} {ins : List ByteArray} {ls : List LetC} {all : List NodeC} : isT x 0 inS = true → qap r = .ok ins r1 → Lts [] [] r1 (.ok ls all (y :: r2)) → isT y 0 outS = true → qap r2 = .bad r3 → Prg (x :: r) (.bad r3)
 | tail {x y z : Tok} {r r1 r2 r3 : List Tok} {ins outs : List ByteArray} {ls : List LetC} {all : List NodeC} : isT x 0 inS = true → qap r = .ok ins r1 → Lts [] [] r1 (.ok ls all (y :: r2)) → isT y 0 outS = true → qap r2 = .ok outs (z :: r3) → Prg (x :: r) (.bad (z :: r3))
 | ok {x y : Tok} {r r1 r2 : List Tok} {ins outs : List ByteArray} {ls : List LetC} {all : List NodeC} : isT x 0 inS = true → qap r = .ok ins r1 → Lts [] [] r1 (.ok ls all (y :: r2)) → isT y 0 outS = true → qap r2 = .ok outs [] → Prg (x :: r) (.ok ⟨ins,ls,outs,all⟩)
theorem qf7 {r : List Tok} {k : Int} {t : ByteArray} (h : hdT r k t = true) : ∃ x r',r = x :: r' ∧ isT x k t = true := by
 cases r with
 | nil => cases h
 | cons x r => exact ⟨x,r,rfl,h⟩
theorem qy1 {r : List Tok} (h : hdN r = true) : ∃ x r',r = x :: r' ∧ qcx x = true := by
 cases r with
 | nil => cases h
 | cons x r => exact ⟨x,r,rfl,h⟩
theorem Lt1.some_out (all : List NodeC) (r : List Tok) : ∃ o,Lt1 all r o := by
 cases hn : hdN r with
 | false => exact ⟨_,.noname hn⟩
 | true =>
   obtain ⟨x,r,rfl,hx⟩ := qy1 hn
   cases he : hdT r 2 qf6 with
   | false => exact ⟨_,.noeq hx he⟩
   | true =>
     obtain ⟨y,r,rfl,hy⟩ := qf7 he
     obtain ⟨o,ho⟩ := Ps.sum_out all r
     cases o with
     | bad r1 => exact ⟨_,.sumbad hx hy ho⟩
     | ok a1 r1 =>
       cases hs : hdT r1 2 qdo with
       | false => exact ⟨_,.nosemi hx hy ho hs⟩
       | true =>
         obtain ⟨z,r1,rfl,hz⟩ := qf7 hs
         exact ⟨_,.ok hx hy ho hz⟩
theorem Lt1.len {all a1 : List NodeC} {r r1 : List Tok} {n : ByteArray} (h : Lt1 all r (.ok n a1 r1)) : r1.length < r.length := by
 cases h with
 | ok _ _ h1 _ =>
   have := h1.len
   simp only [POut.fits,List.length_cons] at *
   omega
theorem Lts.some_out : ∀ (n : Nat) (ls : List LetC) (all : List NodeC) (r : List Tok),r.length ≤ n → ∃ o,Lts ls all r o := by
 intro n
 induction n with
 | zero =>
   intro ls all r hr
   obtain rfl : r = [] := List.length_eq_zero_iff.1 (by omega)
   exact ⟨_,.fin rfl⟩
 | succ n ih =>
   intro ls all r hr
   cases hl : hdT r 0 letS with
   | false => exact ⟨_,.fin hl⟩
   | true =>
     obtain ⟨x,r,rfl,hx⟩ := qf7 hl
     obtain ⟨o,ho⟩ := Lt1.some_out all r
     cases o with
     | bad r1 => exact ⟨_,.bad hx ho⟩
     | ok nm a1 r1 =>
       have hlen := ho.len
       obtain ⟨o,ho2⟩ := ih (ls ++ [⟨nm,jc a1⟩]) a1 r1 (by simp only [List.length_cons] at hr; omega)
       exact ⟨_,.more hx ho ho2⟩
theorem Prg.some_out (r : List Tok) : ∃ o,Prg r o := by
 cases hi : hdT r 0 inS with
 | false => exact ⟨_,.noin hi⟩
 | true =>
   obtain ⟨x,r,rfl,hx⟩ := qf7 hi
   cases hn : qap r with
   | bad r1 => exact ⟨_,.insbad hx hn⟩
   | ok ins r1 =>
     obtain ⟨o,ho⟩ := Lts.some_out r1.length [] [] r1 (Nat.le_refl _)
     cases o with
     | bad r2 => exact ⟨_,.letsbad hx hn ho⟩
     | ok ls all r2 =>
       cases hu : hdT r2 0 outS with
       | false => exact ⟨_,.noout hx hn ho hu⟩
       | true =>
         obtain ⟨y,r2,rfl,hy⟩ := qf7 hu
         cases hm : qap r2 with
         | bad r3 => exact ⟨_,.outsbad hx hn ho hy hm⟩
         | ok outs r3 =>
           cases r3 with
           | nil => exact ⟨_,.ok hx hn ho hy hm⟩
           | cons z r3 => exact ⟨_,.tail hx hn ho hy hm⟩
theorem qy2 (s : ByteArray) (i : Nat) (h : i < s.size) : s.data.toList.drop i = s.get! i :: s.data.toList.drop (i + 1) := by
 have h' : i < s.data.toList.length := by rw [Array.length_toList]; exact h
 rw [List.drop_eq_getElem_cons h']
 congr 1
 show _ = s.data[i]!
 have h2 : i < s.data.size := h
 rw [getElem!_pos s.data i h2]
 simp
theorem qpy {α : Type} {motive : List α → Prop} (h0 : motive []) (h1 : ∀ l a,motive l → motive (l ++ [a])) (l : List α) : motive l := by
 have : ∀ m : List α,motive m.reverse := by
   intro m
   induction m with
   | nil => exact h0
   | cons a m ih => rw [List.reverse_cons]; exact h1 _ a ih
 have := this l.reverse
 rwa [List.reverse_reverse] at this
inductive Ex where
 | ref (t : ByteArray)
 | num (q : Rat)
 | neg (x : Ex)
 | pow (x : Ex) (e : Int)
 | bin (k : Int) (x y : Ex)
def Ex.n : Ex → Nat
 | .ref _ => 1
 | .num _ => 1
 | .neg x => x.n + 1
 | .pow x _ => x.n + 1
 | .bin _ x y => x.n + y.n + 1
theorem Ex.n_pos (x : Ex) : 0 < x.n := by cases x <;> simp [Ex.n]
def Ex.nd : Ex → Nat → List NodeC
 | .ref t,_ => [refN t]
 | .num q,_ => [numN q]
 | .neg x,b => x.nd b ++ [negN ((b : Int) + x.n - 1)]
 | .pow x e,b => x.nd b ++ [powN ((b : Int) + x.n - 1) e]
 | .bin k x y,b => x.nd b ++ y.nd (b + x.n) ++ [binN k ((b : Int) + x.n - 1) ((b : Int) + x.n + y.n - 1)]
theorem Ex.nd_len (x : Ex) : ∀ b,(x.nd b).length = x.n := by
 induction x with
 | ref t => intro b; rfl
 | num q => intro b; rfl
 | neg x ih => intro b; simp [Ex.nd,Ex.n,ih]
 | pow x e ih => intro b; simp [Ex.nd,Ex.n,ih]
 | bin k x y ih1 ih2 => intro b; simp [Ex.nd,Ex.n,ih1,ih2,Nat.add_assoc]
def Ex.h : Ex → Nat
 | .ref _ => 1
 | .num _ => 1
 | .neg x => x.h + 1
 | .pow x _ => x.h + 1
 | .bin _ x y => max x.h y.h + 1
def Ex.ok : Ex → Prop
 | .ref t => yk t = true
 | .num q => 0 ≤ q.num ∧ (digs q.num.natAbs).length ≤ 40 ∧ (digs q.den).length ≤ 40
 | .neg x => x.ok
 | .pow x e => x.ok ∧ -20 ≤ e ∧ e ≤ 20
 | .bin k x y => 2 ≤ k ∧ k ≤ 5 ∧ x.ok ∧ y.ok
def qy3 (t : Tok) : Prop := t.kind = 1 → numZ t.text = true
theorem qy4 {s : ByteArray} : ∀ (f i : Nat),s.size ≤ i + f → i ≤ s.size → vf vh s i = s.size → ∀ j,i ≤ j → j < s.size → 48 ≤ (s.get! j).toNat ∧ (s.get! j).toNat ≤ 57 := by
 intro f
 induction f with
 | zero => intro i h1 h2 _ j h3 h4; omega
 | succ f ih =>
   intro i h1 h2 h j h3 h4
   by_cases hi : i < s.size
   · cases hd : vh (kAt s i) with
     | false => rw [qdl hi hd] at h; omega
     | true =>
       have hk : kAt s i = 2 := by simpa [vh] using hd
       have h2' := qyr hk
       rw [qcw hi hd,h2'.1] at h
       by_cases hj : j = i
       · subst hj; exact h2'.2
       · exact ih (i + 1) (by omega) (by omega) h j (by omega) h4
   · omega
theorem qpz {s : ByteArray} (h : qer s = true) : (∀ j,j < s.size → 48 ≤ (s.get! j).toNat ∧ (s.get! j).toNat ≤ 57) ∧ 1 ≤ s.size ∧ s.size ≤ 40 ∧ (s.size = 1 ∨ (s.get! 0).toNat ≠ 48) := by
 unfold qer at h
 simp only [Bool.and_eq_true,Bool.or_eq_true,decide_eq_true_eq] at h
 obtain ⟨⟨⟨h1,h2⟩,h3⟩,h4⟩ := h
 exact ⟨fun j hj => qy4 s.size 0 (by omega) (by omega) h3 j (by omega) hj,h1,h2,h4⟩
theorem qdp (s : ByteArray) : s.toList = s.data.toList := by simp [ByteArray.toList_eq]
theorem qy5 {s : ByteArray} {j : Nat} (hj : j < s.size) : s.toList[j]? = some (s.get! j) := by
 rw [qdp]
 have := qy2 s j hj
 rw [← List.head?_drop,this]; rfl
theorem qp0 (s : ByteArray) : s.toList.length = s.size := by rw [qdp]; rfl
theorem qy6 {s : ByteArray} (h : ∀ j,j < s.size → 48 ≤ (s.get! j).toNat ∧ (s.get! j).toNat ≤ 57) : ∀ b ∈ s.toList,48 ≤ b.toNat ∧ b.toNat ≤ 57 := by
 intro b hb
 obtain ⟨j,hj,rfl⟩ := List.getElem_of_mem hb
 have hj' : j < s.size := by rw [← qp0]; exact hj
 have := qy5 hj'
 rw [List.getElem?_eq_getElem hj] at this
 rw [Option.some.inj this]
 exact h j hj'
theorem qy7 (l : List UInt8) (b : UInt8) : decN (l ++ [b]) = 10 * decN l + (b.toNat - 48) := by unfold decN; rw [List.foldl_append]; rfl
theorem qy8 {l : List UInt8} (h : ∀ b ∈ l,48 ≤ b.toNat ∧ b.toNat ≤ 57) : decN l < 10 ^ l.length := by
 revert h
 refine qpy (motive := fun l => (∀ b ∈ l,48 ≤ b.toNat ∧ b.toNat ≤ 57) → decN l < 10 ^ l.length) (fun _ => by decide) (fun l b ih h => ?_) l
 have h1 := ih fun x hx => h x (by simp [hx])
 have h2 := h b (by simp)
 rw [qy7,List.length_append]
 show _ < 10 ^ (l.length + 1)
 rw [Nat.pow_succ]
 omega
theorem qp1 {s : ByteArray} {n : Nat} (hs : numZ s = true) (h : qbo s = some n) : n ≤ 20 := by
 unfold qbo at h
 split at h
 · rename_i h1
   cases h
   have hp : qer s = true := by
     unfold numZ at hs
     split at hs
     · exact hs
     · rename_i hc
       simp only [Bool.and_eq_true] at hs
       have hle := qys s
       obtain ⟨_,h2,_,_⟩ := qpz hs.1.1
       rw [ByteArray.size_extract] at h2
       omega
   have := qy8 (qy6 (qpz hp).1)
   rw [qp0,h1] at this
   omega
 · split at h
   · rename_i h2
     cases h
     exact h2.2.2
   · cases h
def POut.rest : POut → List Tok
 | .bad r => r
 | .ok _ r => r
def qy9 (r : List Tok) : Prop := ∀ t ∈ r,qy3 t
theorem Expo.le {r r1 : List Tok} {e : Int} (h : Expo r (some e) r1) (hr : qy9 r) : -20 ≤ e ∧ e ≤ 20 := by
 cases h with
 | neg _ h1 h2 => have := qp1 (hr _ (by simp) h1) h2; omega
 | pos _ h1 h2 => have := qp1 (hr _ (by simp) h1) h2; omega
def Lv.tail : Lv → Bool
 | .powL => true
 | .prodL => true
 | .sumL => true
 | _ => false
def laid : List (ByteArray × Ex) → Nat → List LetC × List NodeC
 | [],_ => ([],[])
 | (s,x) :: l,b => (⟨s,(b : Int) + x.n - 1⟩ :: (laid l (b + x.n)).1,x.nd b ++ (laid l (b + x.n)).2)
theorem qp2 (s : ByteArray) (x : Ex) : ∀ (l : List (ByteArray × Ex)) (b : Nat), laid (l ++ [(s, x)]) b = ((laid l b).1 ++ [⟨s, ((b + (laid l b).2.length : Nat) : Int) + x.n - 1⟩], (laid l b).2 ++ x.nd (b + (laid l b).2.length))
 | [],b => by simp [laid]
 | (t, y) :: l, b => by
   have ih := qp2 s x l (b + y.n)
   simp only [List.cons_append,laid,ih,List.length_append,y.nd_len,Nat.add_assoc,List.append_assoc]
theorem qb4 (l : List (ByteArray × Ex)) : ∀ b,(laid l b).1.length = l.length := by
 induction l with
 | nil => intro b; rfl
 | cons a l ih => intro b; obtain ⟨s,x⟩ := a; simp [laid,ih]
def qeu (l : List ByteArray) : Prop := ∀ s ∈ l,yk s = true
def qaq (l : List (ByteArray × Ex)) : Prop := ∀ a ∈ l,yk a.1 = true ∧ a.2.ok
structure Shaped (p : qx) (l : List (ByteArray × Ex)) : Prop where
 lets : p.lets = (laid l 0).1
 all : p.all = (laid l 0).2
 ok : qaq l
def Ex.hs : Ex → List Nat
 | .ref _ => [1]
 | .num _ => [1]
 | .neg x => x.hs ++ [x.h + 1]
 | .pow x _ => x.hs ++ [x.h + 1]
 | .bin _ x y => x.hs ++ y.hs ++ [max x.h y.h + 1]
theorem Ex.hs_len (x : Ex) : x.hs.length = x.n := by
 induction x with
 | ref t => rfl
 | num q => rfl
 | neg x ih => simp [Ex.hs,Ex.n,ih]
 | pow x e ih => simp [Ex.hs,Ex.n,ih]
 | bin k x y ih1 ih2 => simp [Ex.hs,Ex.n,ih1,ih2,Nat.add_assoc]
theorem Ex.hs_last (x : Ex) : x.hs[x.n - 1]? = some x.h := by
 cases x with
 | ref t => rfl
 | num q => rfl
 | neg x => simp [Ex.hs,Ex.n,Ex.h,List.getElem?_append,x.hs_len]
 | pow x e => simp [Ex.hs,Ex.n,Ex.h,List.getElem?_append,x.hs_len]
 | bin k x y => simp [Ex.hs,Ex.n,Ex.h,List.getElem?_append,x.hs_len,y.hs_len]
def j0 (l : List (ByteArray × Ex)) : List Nat := (l.map fun a => a.2.hs).flatten
def yc (l : List NodeC) : Nat → Int → Nat
 | 0,_ => 0
 | f + 1, i => match l[i.toNat]? with
   | none => 0
   | some n => if n.kind ≤ 1 then 1 else if n.kind ≤ 5 then 1 + max (yc l f n.a) (yc l f n.b) else 1 + yc l f n.a
def At (l : List NodeC) (b : Nat) (x : Ex) : Prop := ∀ j c,(x.nd b)[j]? = some c → l[b + j]? = some c
theorem At.left {l m : List NodeC} {b : Nat} (h : ∀ j c,(m)[j]? = some c → l[b + j]? = some c) {u v : List NodeC} (e : m = u ++ v) : ∀ j c,u[j]? = some c → l[b + j]? = some c := by
 intro j c hj
 refine h j c ?_
 rw [e,List.getElem?_append_left]
 · exact hj
 · obtain ⟨h1,_⟩ := List.getElem?_eq_some_iff.1 hj; exact h1
theorem At.right {l m : List NodeC} {b : Nat} (h : ∀ j c,(m)[j]? = some c → l[b + j]? = some c) {u v : List NodeC} (e : m = u ++ v) : ∀ j c,v[j]? = some c → l[b + u.length + j]? = some c := by
 intro j c hj
 rw [Nat.add_assoc]
 refine h _ c ?_
 rw [e,List.getElem?_append_right (by omega),Nat.add_sub_cancel_left]
 exact hj
theorem qza : ∀ (x : Ex) {l : List NodeC} {b f : Nat},x.ok → At l b x → b + x.n ≤ f → yc l f ((b : Int) + x.n - 1) = x.h := by
 intro x
 induction x with
 | ref t =>
   intro l b f _ h hf
   obtain ⟨f,rfl⟩ : ∃ g,f = g + 1 := ⟨f - 1,by simp [Ex.n] at hf; omega⟩
   have := h 0 _ rfl
   have e : ((b : Int) + (Ex.ref t).n - 1).toNat = b + 0 := by simp [Ex.n]
   unfold yc
   rw [e,this]; rfl
 | num q =>
   intro l b f _ h hf
   obtain ⟨f,rfl⟩ : ∃ g,f = g + 1 := ⟨f - 1,by simp [Ex.n] at hf; omega⟩
   have := h 0 _ rfl
   have e : ((b : Int) + (Ex.num q).n - 1).toNat = b + 0 := by simp [Ex.n]
   unfold yc
   rw [e,this]; rfl
 | neg x ih =>
   intro l b f hok h hf
   obtain ⟨f,rfl⟩ : ∃ g,f = g + 1 := ⟨f - 1,by simp [Ex.n] at hf; omega⟩
   have hl := At.left h (u := x.nd b) rfl
   have hr := At.right h (u := x.nd b) rfl 0 _ rfl
   rw [x.nd_len] at hr
   have e : ((b : Int) + (Ex.neg x).n - 1).toNat = b + x.n + 0 := by simp [Ex.n]; omega
   unfold yc
   rw [e,hr]
   show 1 + yc l f ((b : Int) + x.n - 1) = x.h + 1
   rw [ih hok hl (by simp [Ex.n] at hf; omega)]
   omega
 | pow x e0 ih =>
   intro l b f hok h hf
   obtain ⟨f,rfl⟩ : ∃ g,f = g + 1 := ⟨f - 1,by simp [Ex.n] at hf; omega⟩
   have hl := At.left h (u := x.nd b) rfl
   have hr := At.right h (u := x.nd b) rfl 0 _ rfl
   rw [x.nd_len] at hr
   have e : ((b : Int) + (Ex.pow x e0).n - 1).toNat = b + x.n + 0 := by simp [Ex.n]; omega
   unfold yc
   rw [e,hr]
   show 1 + yc l f ((b : Int) + x.n - 1) = x.h + 1
   rw [ih hok.1 hl (by simp [Ex.n] at hf; omega)]
   omega
 | bin k x y ih1 ih2 =>
   intro l b f hok h hf
   obtain ⟨f,rfl⟩ : ∃ g,f = g + 1 := ⟨f - 1,by simp [Ex.n] at hf; omega⟩
   have hxy := At.left h (u := x.nd b ++ y.nd (b + x.n)) rfl
   have hl := At.left hxy (u := x.nd b) rfl
   have hm := At.right hxy (u := x.nd b) rfl
   rw [x.nd_len] at hm
   have hr := At.right h (u := x.nd b ++ y.nd (b + x.n)) rfl 0 _ rfl
   rw [List.length_append,x.nd_len,y.nd_len] at hr
   have e : ((b : Int) + (Ex.bin k x y).n - 1).toNat = b + (x.n + y.n) + 0 := by simp [Ex.n]; omega
   unfold yc
   rw [e,hr]
   obtain ⟨k1,k2,o1,o2⟩ := hok
   show (if k ≤ 1 then 1 else if k ≤ 5 then 1 + max (yc l f ((b : Int) + x.n - 1)) (yc l f ((b : Int) + x.n + y.n - 1)) else 1 + yc l f ((b : Int) + x.n - 1)) = max x.h y.h + 1
   rw [if_neg (by omega),if_pos k2,ih1 o1 hl (by simp [Ex.n] at hf; omega)]
   have := ih2 (b := b + x.n) (f := f) o2 hm (by simp [Ex.n] at hf; omega)
   rw [show (((b + x.n : Nat) : Int) + y.n - 1) = (b : Int) + x.n + y.n - 1 by omega] at this
   rw [this]
   omega
theorem qzb : ∀ (x : Ex) {l : List NodeC} {b f : Nat},x.ok → At l b x → b + x.n ≤ f → ∀ j,j < x.n → some (yc l f ((b + j : Nat) : Int)) = x.hs[j]? := by
 intro x
 have last : ∀ (x : Ex) {l : List NodeC} {b f : Nat}, x.ok → At l b x → b + x.n ≤ f → some (yc l f ((b + (x.n - 1) : Nat) : Int)) = x.hs[x.n - 1]? := fun x l b f h1 h2 h3 => by
   have := x.n_pos
   rw [show ((b + (x.n - 1) : Nat) : Int) = (b : Int) + x.n - 1 by omega,qza x h1 h2 h3,x.hs_last]
 induction x with
 | ref t => intro l b f h1 h2 h3 j hj; simp [Ex.n] at hj; subst hj; exact last _ h1 h2 h3
 | num q => intro l b f h1 h2 h3 j hj; simp [Ex.n] at hj; subst hj; exact last _ h1 h2 h3
 | neg x ih =>
   intro l b f hok h hf j hj
   by_cases hl : j = x.n
   · subst hl; exact last _ hok h hf
   · simp only [Ex.n] at hj hf
     have hl' := At.left h (u := x.nd b) rfl
     rw [ih hok hl' (by omega) j (by omega)]
     simp only [Ex.hs]
     rw [List.getElem?_append_left (by rw [x.hs_len]; omega)]
 | pow x e0 ih =>
   intro l b f hok h hf j hj
   by_cases hl : j = x.n
   · subst hl; exact last _ hok h hf
   · simp only [Ex.n] at hj hf
     have hl' := At.left h (u := x.nd b) rfl
     rw [ih hok.1 hl' (by omega) j (by omega)]
     simp only [Ex.hs]
     rw [List.getElem?_append_left (by rw [x.hs_len]; omega)]
 | bin k x y ih1 ih2 =>
   intro l b f hok h hf j hj
   by_cases hl : j = x.n + y.n
   · subst hl; exact last _ hok h hf
   · simp only [Ex.n] at hj hf
     have hxy := At.left h (u := x.nd b ++ y.nd (b + x.n)) rfl
     have hl' := At.left hxy (u := x.nd b) rfl
     have hm := At.right hxy (u := x.nd b) rfl
     rw [x.nd_len] at hm
     simp only [Ex.hs]
     rw [List.getElem?_append_left (by rw [List.length_append,x.hs_len,y.hs_len]; omega)]
     by_cases hx : j < x.n
     · rw [ih1 hok.2.2.1 hl' (by omega) j hx,List.getElem?_append_left (by rw [x.hs_len]; omega)]
     · rw [List.getElem?_append_right (by rw [x.hs_len]; omega), x.hs_len]
       have := ih2 (b := b + x.n) (f := f) hok.2.2.2 hm (by omega) (j - x.n) (by omega)
       rw [← this,show b + x.n + (j - x.n) = b + j by omega]
end Go.Tw
namespace Go.Proofs.YtoincnplajnpnaaGreat
open Go Go.Tw
def _root_.Go.Tw.NodeC.bare (c : NodeC) : Bool := c.name.toList.isEmpty && ve c.neg c.n c.d
def vr (c : NodeC) : Option Nat :=
 if c.kind = 0 then (if yk c.name && ve c.neg c.n c.d && decide (c.a = 0) && decide (c.b = 0) && decide (c.e = 0) then some 0 else none)
 else if c.kind = 1 then (if c.name.toList.isEmpty && (yf c.neg c.n c.d && !c.neg) && decide (c.a = 0) && decide (c.b = 0) && decide (c.e = 0) then some 0 else none)
 else if 2 ≤ c.kind ∧ c.kind ≤ 5 then (if c.bare && decide (c.e = 0) then some 2 else none)
 else if c.kind = 6 then (if c.bare && decide (c.b = 0) && decide (c.e = 0) then some 1 else none)
 else if c.kind = 7 then (if c.bare && decide (c.b = 0) && decide (-20 ≤ c.e) && decide (c.e ≤ 20) then some 1 else none)
 else none
theorem qp3 {s : ByteArray} (h : s.toList.isEmpty = true) : s = ⟨#[]⟩ := by
 have h1 : s.toList = [] := List.isEmpty_iff.1 h
 rw [qdp] at h1
 cases s
 congr
 exact Array.toList_inj.1 (by simpa using h1)
theorem qp4 {neg : Bool} {A B : List Nat} : ve neg A B = true ↔ neg = false ∧ A = [] ∧ B = [] := by
 unfold ve
 simp [and_assoc]
theorem _root_.Go.Tw.NodeC.bare_iff {c : NodeC} : c.bare = true ↔ c.name = ⟨#[]⟩ ∧ c.neg = false ∧ c.n = [] ∧ c.d = [] := by
 unfold NodeC.bare
 rw [Bool.and_eq_true,qp4]
 constructor
 · rintro ⟨h1,h2⟩; exact ⟨qp3 h1,h2⟩
 · rintro ⟨h1,h2⟩; exact ⟨by rw [h1,ByteArray.toList_eq]; rfl,h2⟩
theorem qke {t : ByteArray} (h : yk t = true) : vr (refN t) = some 0 := by unfold vr refN; simp [h,ve]
theorem qzc {q : Rat} (h : (Ex.num q).ok) : yf (decide (q.num < 0)) (natW q.num.natAbs) (natW q.den) = true := by
 unfold yf qbk
 rw [qb,qb,qa3]
 simp [h.2.1,h.2.2]
theorem qp5 {q : Rat} (h : (Ex.num q).ok) : vr (numN q) = some 0 := by
 have hc := qzc h
 have hn : decide (q.num < 0) = false := decide_eq_false (Int.not_lt.2 h.1)
 rw [hn] at hc
 unfold vr numN
 rw [hn]
 simp [hc]
theorem qkf (a : Int) : vr (negN a) = some 1 := by unfold vr negN NodeC.bare; simp [ve]
theorem qkg {a e : Int} (h : -20 ≤ e ∧ e ≤ 20) : vr (powN a e) = some 1 := by unfold vr powN NodeC.bare; simp [ve,h.1,h.2]
theorem qkh {k a b : Int} (h : 2 ≤ k ∧ k ≤ 5) : vr (binN k a b) = some 2 := by
 unfold vr binN NodeC.bare
 simp [ve,h.1,h.2,show ¬ k = 0 by omega,show ¬ k = 1 by omega]
theorem qp6 {c : NodeC} (h : vr c = some 0) : ∃ x : Ex,x.ok ∧ x.n = 1 ∧ x.h = 1 ∧ (∀ b,x.nd b = [c]) ∧ x.hs = [1] := by
 unfold vr at h
 split at h
 · rename_i hk
   split at h
   · rename_i hc
     simp only [Bool.and_eq_true,decide_eq_true_eq,qp4] at hc
     obtain ⟨⟨⟨⟨h1,h2,h3,h4⟩,h5⟩,h6⟩,h7⟩ := hc
     refine ⟨.ref c.name,h1,rfl,rfl,fun _ => ?_,rfl⟩
     cases c
     simp_all [Ex.nd,refN]
   · cases h
 · split at h
   · rename_i hk
     split at h
     · rename_i hc
       simp only [Bool.and_eq_true,decide_eq_true_eq,Bool.not_eq_true'] at hc
       obtain ⟨⟨⟨⟨h1,h2,h3⟩,h5⟩,h6⟩,h7⟩ := hc
       have h1 := qp3 h1
       unfold yf qbk at h2
       simp only [Bool.and_eq_true,decide_eq_true_eq] at h2
       obtain ⟨⟨⟨⟨g1,g2⟩,g3⟩,g4⟩,g5⟩ := h2
       generalize hq : lowQ c.neg (val c.n) (val c.d) = q at g1 g2 g3
       have hd : ¬ q.num < 0 := by rw [h3] at g1; simpa using g1.symm
       refine ⟨.num q,⟨by omega,?_,?_⟩,rfl,rfl,fun _ => ?_,rfl⟩
       · rw [g2,qb] at g4; exact g4
       · rw [g3,qb] at g5; exact g5
       · cases c
         simp_all [Ex.nd,numN]
     · cases h
   · split at h
     · split at h <;> cases h
     · split at h
       · split at h <;> cases h
       · split at h
         · split at h <;> cases h
         · cases h
theorem qki {c : NodeC} (h : vr c = some 1) : c = negN c.a ∨ (c = powN c.a c.e ∧ -20 ≤ c.e ∧ c.e ≤ 20) := by
 unfold vr at h
 split at h
 · split at h <;> cases h
 · split at h
   · split at h <;> cases h
   · split at h
     · split at h <;> cases h
     · split at h
       · rename_i hk
         split at h
         · rename_i hc
           simp only [Bool.and_eq_true,decide_eq_true_eq,NodeC.bare_iff] at hc
           left
           cases c
           simp_all [negN]
         · cases h
       · split at h
         · rename_i hk
           split at h
           · rename_i hc
             simp only [Bool.and_eq_true,decide_eq_true_eq,NodeC.bare_iff] at hc
             right
             refine ⟨?_,hc.1.2,hc.2⟩
             cases c
             simp_all [powN]
           · cases h
         · cases h
theorem qkj {c : NodeC} (h : vr c = some 2) : c = binN c.kind c.a c.b ∧ 2 ≤ c.kind ∧ c.kind ≤ 5 := by
 unfold vr at h
 split at h
 · split at h <;> cases h
 · split at h
   · split at h <;> cases h
   · split at h
     · rename_i hk
       split at h
       · rename_i hc
         simp only [Bool.and_eq_true,decide_eq_true_eq,NodeC.bare_iff] at hc
         refine ⟨?_,hk⟩
         cases c
         simp_all [binN]
       · cases h
     · split at h
       · split at h <;> cases h
       · split at h
         · split at h <;> cases h
         · cases h
theorem qkk {c : NodeC} {k : Nat} (h : vr c = some k) : k ≤ 2 := by
 unfold vr at h
 repeat' split at h
 all_goals first | (cases h; decide) | cases h
def qai (c : NodeC) (fr : Int) : List Nat → Bool
 | [] => true
 | [x] => decide (c.a = x + fr)
 | [x,y] => decide (c.a = x + fr) && decide (c.b = y + fr)
 | _ => false
def hOf (out : List Nat) (made : List Nat) : Nat := (made.map fun x => out.getD x 0).foldl max 0
def jr (fr : Int) (st : List Nat × List Nat) (c : NodeC) : Option (List Nat × List Nat) :=
 match vr c with
 | none => none
 | some k => if k ≤ st.2.length ∧ qai c fr (st.2.drop (st.2.length - k)) = true then some (st.1 ++ [hOf st.1 (st.2.drop (st.2.length - k)) + 1],st.2.take (st.2.length - k) ++ [st.1.length]) else none
def runH (fr : Int) : List NodeC → List Nat × List Nat → Option (List Nat × List Nat)
 | [],st => some st
 | c :: l,st => (jr fr st c).bind (runH fr l)
theorem qcy (fr : Int) : ∀ (l m : List NodeC) (st : List Nat × List Nat), runH fr (l ++ m) st = (runH fr l st).bind (runH fr m)
 | [],m,st => rfl
 | c :: l, m, st => by
   show (jr fr st c).bind (runH fr (l ++ m)) = ((jr fr st c).bind (runH fr l)).bind (runH fr m)
   cases jr fr st c with
   | none => rfl
   | some s => exact qcy fr l m s
theorem qev (fr : Int) (c : NodeC) (st : List Nat × List Nat) : runH fr [c] st = jr fr st c := by
 show (jr fr st c).bind _ = _
 cases jr fr st c <;> rfl
theorem qkl {α : Type} (S : List α) (x : α) : (S ++ [x]).take ((S ++ [x]).length - 1) = S ∧ (S ++ [x]).drop ((S ++ [x]).length - 1) = [x] := by simp
theorem qp7 {α : Type} (S : List α) (x y : α) : (S ++ [x] ++ [y]).take ((S ++ [x] ++ [y]).length - 2) = S ∧ (S ++ [x] ++ [y]).drop ((S ++ [x] ++ [y]).length - 2) = [x,y] := by simp
theorem qdq (out : List Nat) (x : Ex) (m : List Nat) : (out ++ x.hs ++ m).getD (out.length + x.n - 1) 0 = x.h := by
 have h1 := x.n_pos
 have := x.hs_last
 rw [List.getD_eq_getElem?_getD,List.append_assoc,List.getElem?_append_right (by omega),List.getElem?_append_left (by rw [x.hs_len]; omega),show out.length + x.n - 1 - out.length = x.n - 1 by omega,this]
 rfl
theorem qzd (fr : Int) : ∀ (x : Ex) (out S : List Nat) (b : Nat),x.ok → (b : Int) = fr + out.length → runH fr (x.nd b) (out,S) = some (out ++ x.hs,S ++ [out.length + x.n - 1]) := by
 intro x
 induction x with
 | ref t =>
   intro out S b hok hb
   show runH fr [refN t] _ = _
   rw [qev]
   unfold jr
   rw [qke hok]
   dsimp only
   rw [if_pos ⟨by omega,by simp [qai]⟩]
   simp [hOf,Ex.hs,Ex.n]
 | num q =>
   intro out S b hok hb
   show runH fr [numN q] _ = _
   rw [qev]
   unfold jr
   rw [qp5 hok]
   dsimp only
   rw [if_pos ⟨by omega,by simp [qai]⟩]
   simp [hOf,Ex.hs,Ex.n]
 | neg x ih =>
   intro out S b hok hb
   show runH fr (x.nd b ++ [negN _]) _ = _
   rw [qcy,ih out S b hok hb]
   show runH fr [negN _] _ = _
   rw [qev]
   unfold jr
   rw [qkf]
   dsimp only
   obtain ⟨e1,e2⟩ := qkl S (out.length + x.n - 1)
   have h1 := x.n_pos
   have hg := qdq out x []
   rw [List.append_nil] at hg
   rw [e1,e2,if_pos ⟨by simp,decide_eq_true (show (b : Int) + x.n - 1 = ((out.length + x.n - 1 : Nat) : Int) + fr by omega)⟩]
   simp only [hOf,List.map_cons,List.map_nil,List.foldl_cons,List.foldl_nil,hg,Ex.hs,Ex.n,List.length_append,x.hs_len,Nat.zero_max,List.append_assoc]
   rfl
 | pow x e ih =>
   intro out S b hok hb
   show runH fr (x.nd b ++ [powN _ e]) _ = _
   rw [qcy,ih out S b hok.1 hb]
   show runH fr [powN _ e] _ = _
   rw [qev]
   unfold jr
   rw [qkg hok.2]
   dsimp only
   obtain ⟨e1,e2⟩ := qkl S (out.length + x.n - 1)
   have h1 := x.n_pos
   have hg := qdq out x []
   rw [List.append_nil] at hg
   rw [e1,e2,if_pos ⟨by simp,decide_eq_true (show (b : Int) + x.n - 1 = ((out.length + x.n - 1 : Nat) : Int) + fr by omega)⟩]
   simp only [hOf,List.map_cons,List.map_nil,List.foldl_cons,List.foldl_nil,hg,Ex.hs,Ex.n,List.length_append,x.hs_len,Nat.zero_max,List.append_assoc]
   rfl
 | bin k x y ih1 ih2 =>
   intro out S b hok hb
   obtain ⟨k1,k2,o1,o2⟩ := hok
   have h1 := x.n_pos
   have h2 := y.n_pos
   show runH fr (x.nd b ++ y.nd (b + x.n) ++ [binN k _ _]) _ = _
   rw [qcy,qcy,ih1 out S b o1 hb]
   show (runH fr (y.nd (b + x.n)) (out ++ x.hs,S ++ [out.length + x.n - 1])).bind _ = _
   rw [ih2 (out ++ x.hs) (S ++ [out.length + x.n - 1]) (b + x.n) o2 (by rw [List.length_append,x.hs_len]; omega)]
   show runH fr [binN k _ _] _ = _
   rw [qev]
   unfold jr
   rw [qkh ⟨k1,k2⟩]
   dsimp only
   obtain ⟨e1,e2⟩ := qp7 S (out.length + x.n - 1) ((out ++ x.hs).length + y.n - 1)
   have hg1 := qdq out x y.hs
   have hg2 := qdq (out ++ x.hs) y []
   rw [List.append_nil] at hg2
   rw [e1,e2,if_pos ⟨by simp,by simp only [qai,Bool.and_eq_true]; exact ⟨decide_eq_true (show (b : Int) + x.n - 1 = ((out.length + x.n - 1 : Nat) : Int) + fr by omega),decide_eq_true (show (b : Int) + x.n + y.n - 1 = (((out ++ x.hs).length + y.n - 1 : Nat) : Int) + fr by rw [List.length_append,x.hs_len]; omega)⟩⟩]
   simp only [hOf,List.map_cons,List.map_nil,List.foldl_cons,List.foldl_nil,hg1,hg2,Nat.zero_max]
   simp only [Ex.hs,Ex.n,List.length_append,x.hs_len,y.hs_len,List.append_assoc]
   congr 4
def fnd : List Ex → Nat → List NodeC
 | [],_ => []
 | x :: l,b => x.nd b ++ fnd l (b + x.n)
def flen : List Ex → Nat
 | [] => 0
 | x :: l => x.n + flen l
def fpos : List Ex → Nat → List Nat
 | [],_ => []
 | x :: l,b => (b + x.n - 1) :: fpos l (b + x.n)
def fhs (l : List Ex) : List Nat := (l.map Ex.hs).flatten
theorem qf8 : ∀ (l : List Ex), (fhs l).length = flen l
 | [] => rfl
 | x :: l => by
   have := qf8 l
   simp only [fhs] at *
   simp [flen,x.hs_len,this]
theorem qew : ∀ (l m : List Ex), flen (l ++ m) = flen l + flen m
 | [],m => by simp [flen]
 | x :: l,m => by simp [flen,qew l m,Nat.add_assoc]
theorem qdr : ∀ (l m : List Ex) (b : Nat), fnd (l ++ m) b = fnd l b ++ fnd m (b + flen l)
 | [],m,b => by simp [fnd,flen]
 | x :: l,m,b => by simp [fnd,flen,qdr l m,Nat.add_assoc]
theorem qds : ∀ (l m : List Ex) (b : Nat), fpos (l ++ m) b = fpos l b ++ fpos m (b + flen l)
 | [],m,b => by simp [fpos,flen]
 | x :: l,m,b => by simp [fpos,flen,qds l m,Nat.add_assoc]
theorem qa5 (l m : List Ex) : fhs (l ++ m) = fhs l ++ fhs m := by simp [fhs]
theorem qkm : ∀ (l : List Ex) (b : Nat), (fpos l b).length = l.length
 | [],_ => rfl
 | x :: l,b => by simp [fpos,qkm l]
theorem qze (b : Nat) (l : List NodeC) : ∀ st,runH (b : Int) l ([],[]) = some st → ∃ fs : List Ex,(∀ x ∈ fs,x.ok) ∧ l = fnd fs b ∧ st.1 = fhs fs ∧ st.2 = fpos fs 0 := by
 refine qpy (motive := fun l => ∀ st,runH (b : Int) l ([],[]) = some st → ∃ fs : List Ex,(∀ x ∈ fs,x.ok) ∧ l = fnd fs b ∧ st.1 = fhs fs ∧ st.2 = fpos fs 0) ?_ ?_ l
 · intro st h; cases h; exact ⟨[],fun x hx => (by cases hx),rfl,rfl,rfl⟩
 · intro l c ih st h
   rw [qcy] at h
   cases hr : runH (b : Int) l ([],[]) with
   | none => rw [hr] at h; cases h
   | some s1 =>
     rw [hr] at h
     change runH (b : Int) [c] s1 = some st at h
     rw [qev] at h
     obtain ⟨fs,hok,e1,e2,e3⟩ := ih _ hr
     unfold jr at h
     cases hp : vr c with
     | none => rw [hp] at h; cases h
     | some k =>
       rw [hp] at h
       dsimp only at h
       split at h
       · rename_i hc
         cases h
         have hk := qkk hp
         have hlen : s1.2.length = fs.length := by rw [e3,qkm]
         have hout : s1.1.length = flen fs := by rw [e2,qf8]
         rcases (by omega : k = 0 ∨ k = 1 ∨ k = 2) with rfl | rfl | rfl
         · obtain ⟨x, q1, q2, q3, q4, q5⟩ := qp6 hp
           refine ⟨fs ++ [x],fun y hy => ?_,?_,?_,?_⟩
           · rcases List.mem_append.1 hy with hy | hy
             · exact hok y hy
             · rw [List.mem_singleton.1 hy]; exact q1
           · rw [qdr,e1]; simp [fnd,q4]
           · dsimp only; rw [qa5,e2]; simp [hOf,fhs,q5]
           · dsimp only; rw [qds,e3,hout]; simp [fpos,q2]
         · obtain ⟨fs,x,rfl⟩ : ∃ fs' x,fs = fs' ++ [x] := by
             rcases List.eq_nil_or_concat fs with rfl | ⟨a,b',rfl⟩
             · have := hc.1; rw [hlen] at this; simp at this
             · exact ⟨a,b',by simp⟩
           have h1 := x.n_pos
           have ep : fpos (fs ++ [x]) 0 = fpos fs 0 ++ [flen fs + x.n - 1] := by rw [qds]; simp [fpos]
           rw [ep] at e3
           obtain ⟨t1,t2⟩ := qkl (fpos fs 0) (flen fs + x.n - 1)
           rw [e3] at hc ⊢
           rw [t1,t2]
           rw [t2] at hc
           have hm := hc.2
           simp only [qai,decide_eq_true_eq] at hm
           have hx : x.ok := hok x (by simp)
           have hf : ∀ y ∈ fs,y.ok := fun y hy => hok y (by simp [hy])
           have hg : s1.1.getD (flen fs + x.n - 1) 0 = x.h := by
             have := qdq (fhs fs) x []
             rw [qf8] at this
             rw [e2,qa5,← this]; simp [fhs]
           have key : ∀ y : Ex,y.ok → y.n = x.n + 1 → y.hs = x.hs ++ [x.h + 1] → y.nd (b + flen fs) = x.nd (b + flen fs) ++ [c] → ∃ fs1 : List Ex,(∀ x ∈ fs1,x.ok) ∧ l ++ [c] = fnd fs1 b ∧ s1.1 ++ [hOf s1.1 [flen fs + x.n - 1] + 1] = fhs fs1 ∧ fpos fs 0 ++ [s1.1.length] = fpos fs1 0 := by
             intro y hy hn hh hnd
             refine ⟨fs ++ [y],fun z hz => ?_,?_,?_,?_⟩
             · rcases List.mem_append.1 hz with hz | hz
               · exact hf z hz
               · rw [List.mem_singleton.1 hz]; exact hy
             · rw [qdr,e1,qdr]; simp [fnd,hnd]
             · rw [e2,qa5,qa5]; simp [fhs,hh,hOf]; rw [e2] at hg; simp [fhs] at hg; exact hg
             · rw [qds,hout,qew]; simp [fpos,flen,hn]
           rcases qki hp with ec | ⟨ec,he⟩
           · refine key (.neg x) hx rfl rfl ?_
             rw [ec]
             simp only [Ex.nd]
             congr 3
             omega
           · refine key (.pow x c.e) ⟨hx, he⟩ rfl rfl ?_
             conv => rhs; rw [ec]
             simp only [Ex.nd]
             congr 3
             omega
         · obtain ⟨fs,x,y,rfl⟩ : ∃ fs' x y,fs = fs' ++ [x] ++ [y] := by
             rcases List.eq_nil_or_concat fs with rfl | ⟨a,b',rfl⟩
             · have := hc.1; rw [hlen] at this; simp at this
             · rcases List.eq_nil_or_concat a with rfl | ⟨a2, b2, rfl⟩
               · have := hc.1; rw [hlen] at this; simp at this
               · exact ⟨a2,b2,b',by simp⟩
           have h1 := x.n_pos
           have h2 := y.n_pos
           have ep : fpos (fs ++ [x] ++ [y]) 0 = fpos fs 0 ++ [flen fs + x.n - 1] ++ [flen fs + x.n + y.n - 1] := by rw [qds,qds,qew]; simp [fpos,flen]
           rw [ep] at e3
           obtain ⟨t1,t2⟩ := qp7 (fpos fs 0) (flen fs + x.n - 1) (flen fs + x.n + y.n - 1)
           rw [e3] at hc ⊢
           rw [t1,t2]
           rw [t2] at hc
           have hm := hc.2
           simp only [qai,Bool.and_eq_true,decide_eq_true_eq] at hm
           have hx : x.ok := hok x (by simp)
           have hy : y.ok := hok y (by simp)
           have hf : ∀ y ∈ fs,y.ok := fun y hy => hok y (by simp [hy])
           have hg1 : s1.1.getD (flen fs + x.n - 1) 0 = x.h := by
             have := qdq (fhs fs) x y.hs
             rw [qf8] at this
             rw [e2,qa5,qa5,← this]; simp [fhs]
           have hg2 : s1.1.getD (flen fs + x.n + y.n - 1) 0 = y.h := by
             have := qdq (fhs fs ++ x.hs) y []
             rw [List.length_append,qf8,x.hs_len] at this
             rw [e2,qa5,qa5,← this]; simp [fhs]
           obtain ⟨ec,hk2⟩ := qkj hp
           refine ⟨fs ++ [.bin c.kind x y],fun z hz => ?_,?_,?_,?_⟩
           · rcases List.mem_append.1 hz with hz | hz
             · exact hf z hz
             · rw [List.mem_singleton.1 hz]; exact ⟨hk2.1,hk2.2,hx,hy⟩
           · rw [qdr, e1, qdr, qdr, qew]
             simp only [fnd,Ex.nd,List.append_nil,List.append_assoc,flen]
             congr 3
             · rw [Nat.add_zero,Nat.add_assoc]
             · conv => lhs; rw [ec]
               congr 2 <;> omega
           · dsimp only
             simp only [hOf,List.map_cons,List.map_nil,List.foldl_cons,List.foldl_nil,hg1,hg2,Nat.zero_max]
             rw [e2,qa5,qa5,qa5]; simp [fhs,Ex.hs]
           · dsimp only
             rw [qds,hout,qew,qew]; simp [fpos,flen,Ex.n]; omega
       · cases h
def hZ (l : List NodeC) (b : Nat) : Option (List Nat) := match runH (b : Int) l ([], []) with
 | some (out,[_]) => some out
 | _ => none
theorem qzf {x : Ex} (h : x.ok) (b : Nat) : hZ (x.nd b) b = some x.hs := by
 unfold hZ
 rw [qzd (b : Int) x [] [] b h (by simp)]
 simp
theorem qp8 {l : List NodeC} {b : Nat} {out : List Nat} (h : hZ l b = some out) : ∃ x : Ex,x.ok ∧ l = x.nd b ∧ out = x.hs := by
 unfold hZ at h
 split at h
 · rename_i o z hr
   cases h
   obtain ⟨fs,h1,h2,h3,h4⟩ := qze b l _ hr
   dsimp only at h3 h4
   have hl := congrArg List.length h4
   rw [qkm] at hl
   obtain ⟨x,rfl⟩ := List.length_eq_one_iff.1 hl.symm
   exact ⟨x,h1 x (by simp),by rw [h2]; simp [fnd],by rw [h3]; simp [fhs]⟩
 · cases h
structure zm (p : qx) (l : List (ByteArray × Ex)) : Prop extends Shaped p l where
 ins : qeu p.ins ∧ 1 ≤ p.ins.length ∧ p.ins.length ≤ 40
 outs : qeu p.outs ∧ 1 ≤ p.outs.length ∧ p.outs.length ≤ 40
 few : l.length ≤ 40 ∧ p.all.length ≤ 400
 low : ∀ a ∈ l,a.2.h ≤ 60
theorem _root_.Go.Tw.Ex.hs_le (x : Ex) : ∀ k ∈ x.hs,k ≤ x.h := by
 induction x with
 | ref t => intro k hk; simp [Ex.hs] at hk; subst hk; exact Nat.le_refl _
 | num q => intro k hk; simp [Ex.hs] at hk; subst hk; exact Nat.le_refl _
 | neg x ih =>
   intro k hk
   simp only [Ex.hs,List.mem_append,List.mem_singleton] at hk
   rcases hk with hk | rfl
   · have := ih k hk; simp only [Ex.h]; omega
   · exact Nat.le_refl _
 | pow x e ih =>
   intro k hk
   simp only [Ex.hs,List.mem_append,List.mem_singleton] at hk
   rcases hk with hk | rfl
   · have := ih k hk; simp only [Ex.h]; omega
   · exact Nat.le_refl _
 | bin _ x y ih1 ih2 =>
   intro k hk
   simp only [Ex.hs,List.mem_append,List.mem_singleton] at hk
   rcases hk with (hk | hk) | rfl
   · have := ih1 k hk; simp only [Ex.h]; omega
   · have := ih2 k hk; simp only [Ex.h]; omega
   · exact Nat.le_refl _
theorem _root_.Go.Tw.Ex.h_le (x : Ex) : x.h ≤ x.n := by
 induction x with
 | ref t => exact Nat.le_refl _
 | num q => exact Nat.le_refl _
 | neg x ih => simp only [Ex.h,Ex.n]; omega
 | pow x e ih => simp only [Ex.h,Ex.n]; omega
 | bin k x y ih1 ih2 => simp only [Ex.h,Ex.n]; omega
theorem _root_.Go.Tw.Ex.h_mem (x : Ex) : x.h ∈ x.hs := List.mem_of_getElem? x.hs_last
theorem qp9 {x : Ex} {m : Nat} : (∀ k ∈ x.hs,k ≤ m) ↔ x.h ≤ m := ⟨fun h => h _ x.h_mem,fun h k hk => Nat.le_trans (x.hs_le k hk) h⟩
theorem qhx {l : List (ByteArray × Ex)} {m : Nat} : (∀ k ∈ j0 l,k ≤ m) ↔ ∀ a ∈ l,a.2.h ≤ m := by
 unfold j0
 constructor
 · intro h a ha
   exact qp9.1 fun k hk => h k (List.mem_flatten.2 ⟨_,List.mem_map.2 ⟨a,ha,rfl⟩,hk⟩)
 · intro h k hk
   obtain ⟨_,h1,h2⟩ := List.mem_flatten.1 hk
   obtain ⟨a,ha,rfl⟩ := List.mem_map.1 h1
   exact qp9.2 (h a ha) k h2
theorem qhy : ∀ (l : List (ByteArray × Ex)) (b : Nat), (laid l b).2.length = (j0 l).length
 | [],_ => rfl
 | (s, x) :: l, b => by
   have := qhy l (b + x.n)
   simp only [j0] at *
   simp [laid,x.nd_len,x.hs_len,this]
def za (l : List ByteArray) : Bool := l.all yk
theorem qcz {l : List ByteArray} : za l = true ↔ qeu l := by unfold za qeu; simp
def tGo (all : List NodeC) : List LetC → List Nat → Option (List Nat)
 | [],out => some out
 | c :: ls,out => if yk c.name = true ∧ (out.length : Int) ≤ c.root ∧ c.root < all.length then (hZ ((all.take (c.root + 1).toNat).drop out.length) out.length).bind fun h => tGo all ls (out ++ h) else none
def tZ (p : qx) : Option (List Nat) :=
 if za p.ins = true ∧ 1 ≤ p.ins.length ∧ p.ins.length ≤ 40 ∧ za p.outs = true ∧ 1 ≤ p.outs.length ∧ p.outs.length ≤ 40 ∧ p.lets.length ≤ 40 ∧ p.all.length ≤ 400 then
   (tGo p.all p.lets []).bind fun out => if (∀ k ∈ out,k ≤ 60) ∧ out.length = p.all.length then some out else none
 else none
theorem qzg {all : List NodeC} {b : Nat} {x : Ex} {rest : List NodeC} {pre : List NodeC} (hb : pre.length = b) (h : all = pre ++ (x.nd b ++ rest)) : (all.take ((b : Int) + x.n - 1 + 1).toNat).drop b = x.nd b := by
 have e : ((b : Int) + x.n - 1 + 1).toNat = b + x.n := by omega
 rw [e,h,← hb,List.take_length_add_append,List.drop_left,List.take_append_of_le_length (by rw [x.nd_len]; exact Nat.le_refl _),List.take_of_length_le (by rw [x.nd_len]; exact Nat.le_refl _)]
theorem qqa (all : List NodeC) : ∀ (l : List (ByteArray × Ex)) (pre : List NodeC) (out : List Nat) (rest : List NodeC), qaq l → pre.length = out.length → all = pre ++ ((laid l out.length).2 ++ rest) → tGo all (laid l out.length).1 out = some (out ++ j0 l)
 | [],pre,out,rest,_,_,_ => by simp [laid,tGo,j0]
 | (s, x) :: l, pre, out, rest, hl, hp, ha => by
   have h1 := x.n_pos
   obtain ⟨g1,g2⟩ := hl (s,x) (by simp)
   simp only [laid,tGo]
   have hlen : all.length = out.length + x.n + ((laid l (out.length + x.n)).2.length + rest.length) := by rw [ha]; simp [laid,x.nd_len,hp]; omega
   rw [if_pos ⟨g1,by omega,by omega⟩]
   have ha2 : all = pre ++ (x.nd out.length ++ ((laid l (out.length + x.n)).2 ++ rest)) := by rw [ha]; simp [laid]
   rw [qzg hp ha2,qzf g2]
   have ih := qqa all l (pre ++ x.nd out.length) (out ++ x.hs) rest (fun a h => hl a (by simp [h])) (by simp [x.nd_len,x.hs_len,hp]) (by rw [ha2]; simp [x.hs_len])
   rw [List.length_append,x.hs_len] at ih
   show tGo all _ _ = _
   rw [ih]
   simp [j0]
theorem qqb (all : List NodeC) {o : List Nat} : ∀ (ls : List LetC) (l0 : List (ByteArray × Ex)) (out : List Nat), qaq l0 → all.take out.length = (laid l0 0).2 → out = j0 l0 → out.length ≤ all.length → tGo all ls out = some o → ∃ l, qaq l ∧ (laid l0 0).1 ++ ls = (laid l 0).1 ∧ all.take o.length = (laid l 0).2 ∧ o = j0 l ∧ o.length ≤ all.length
 | [], l0, out, h1, h2, h3, h4, h => by
   cases h
   exact ⟨l0,h1,by simp,h2,h3,h4⟩
 | c :: ls, l0, out, h1, h2, h3, h4, h => by
   unfold tGo at h
   split at h
   · rename_i hc
     cases hh : hZ ((all.take (c.root + 1).toNat).drop out.length) out.length with
     | none => rw [hh] at h; cases h
     | some hs =>
       rw [hh] at h
       change tGo all ls (out ++ hs) = some o at h
       obtain ⟨x,q1,q2,q3⟩ := qp8 hh
       have hl := congrArg List.length q2
       rw [x.nd_len,List.length_drop,List.length_take] at hl
       have hlen : out.length + x.n = (c.root + 1).toNat := by omega
       have htk : all.take (out ++ hs).length = (laid l0 0).2 ++ x.nd out.length := by
         rw [q3,List.length_append,x.hs_len,hlen,← q2,← h2]
         have := List.take_append_drop out.length (all.take (c.root + 1).toNat)
         rw [List.take_take,Nat.min_eq_left (by omega)] at this
         exact this.symm
       have e0 : (laid l0 0).2.length = out.length := by rw [qhy,h3]
       have hm := qp2 c.name x l0 0
       obtain ⟨l, k1, k2, k3⟩ := qqb (o := o) all ls (l0 ++ [(c.name, x)]) (out ++ hs) (fun a ha => by
         rcases List.mem_append.1 ha with ha | ha
         · exact h1 a ha
         · rw [List.mem_singleton.1 ha]; exact ⟨hc.1,q1⟩) (by rw [htk,hm]; simp [e0]) (by rw [h3,q3]; simp [j0]) (by rw [q3,List.length_append,x.hs_len]; omega) h
       refine ⟨l,k1,?_,k3⟩
       rw [← k2,hm]
       simp only [List.append_assoc,List.singleton_append]
       congr 2
       cases c with
       | mk nm rt =>
         congr 1
         dsimp only at hlen hc
         rw [e0]
         omega
   · cases h
theorem qzh {p : qx} {l : List (ByteArray × Ex)} (h : zm p l) : tZ p = some (j0 l) := by
 have hlets : p.lets.length = l.length := by rw [h.lets,qb4]
 have hall : p.all.length = (j0 l).length := by rw [h.all,qhy]
 unfold tZ
 rw [if_pos ⟨qcz.2 h.ins.1,h.ins.2.1,h.ins.2.2,qcz.2 h.outs.1,h.outs.2.1,h.outs.2.2,by rw [hlets]; exact h.few.1,h.few.2⟩]
 have := qqa p.all l [] [] [] h.ok rfl (by simp [h.all])
 rw [h.lets]
 change tGo p.all (laid l 0).1 [] = _ at this
 rw [this]
 show (if _ then _ else _) = _
 rw [List.nil_append,if_pos ⟨qhx.2 h.low,hall.symm⟩]
theorem qzi {p : qx} {o : List Nat} (h : tZ p = some o) : ∃ l,zm p l ∧ o = j0 l := by
 unfold tZ at h
 split at h
 · rename_i hc
   obtain ⟨c1,c2,c3,c4,c5,c6,c7,c8⟩ := hc
   cases hg : tGo p.all p.lets [] with
   | none => rw [hg] at h; cases h
   | some out =>
     rw [hg] at h
     change (if _ then _ else _) = _ at h
     split at h
     · rename_i hc2
       cases h
       obtain ⟨l,k1,k2,k3,k4,k5⟩ := qqb (o := o) p.all p.lets [] [] (fun a ha => by cases ha) rfl rfl (by simp) hg
       rw [hc2.2,List.take_length] at k3
       have k2' : p.lets = (laid l 0).1 := k2
       refine ⟨l,⟨⟨k2',k3,k1⟩,⟨qcz.1 c1,c2,c3⟩,⟨qcz.1 c4,c5,c6⟩,⟨by rw [← qb4 l 0,← k2']; exact c7,c8⟩,?_⟩,k4⟩
       rw [k4] at hc2
       exact qhx.1 hc2.1
     · cases h
 · cases h
theorem qex {p : qx} : (tZ p).isSome = true ↔ ∃ l, zm p l :=
 ⟨fun h => by
   cases e : tZ p with
   | none => rw [e] at h; cases h
   | some o => obtain ⟨l,h1,_⟩ := qzi e; exact ⟨l,h1⟩,fun ⟨l,h⟩ => by rw [qzh h]; rfl⟩
def begZ (l : List NodeC) (fr : Int) : Nat → Int → Int
 | 0,_ => fr - 1
 | f + 1, i => if i < fr then fr - 1 else match l[i.toNat]? with
   | none => fr - 1
   | some n => if n.kind = 0 ∨ n.kind = 1 then i
     else if n.kind = 6 ∨ n.kind = 7 then (if n.a ≠ i - 1 then fr - 1 else begZ l fr f n.a)
     else if n.b ≠ i - 1 then fr - 1
     else if begZ l fr f n.b < fr ∨ n.a ≠ begZ l fr f n.b - 1 then fr - 1 else begZ l fr f n.a
theorem qzj {l : List NodeC} {fr : Int} (hfr : 0 ≤ fr) : ∀ (x : Ex) (b f : Nat),x.ok → At l b x → fr ≤ b → b + x.n ≤ f → begZ l fr f ((b : Int) + x.n - 1) = b := by
 intro x
 induction x with
 | ref t =>
   intro b f _ h hb hf
   obtain ⟨f,rfl⟩ : ∃ g,f = g + 1 := ⟨f - 1,by simp [Ex.n] at hf; omega⟩
   have := h 0 _ rfl
   have e : ((b : Int) + (Ex.ref t).n - 1).toNat = b + 0 := by simp [Ex.n]
   unfold begZ
   rw [e,this,if_neg (by simp [Ex.n]; omega)]
   simp [refN,Ex.n]
 | num q =>
   intro b f _ h hb hf
   obtain ⟨f,rfl⟩ : ∃ g,f = g + 1 := ⟨f - 1,by simp [Ex.n] at hf; omega⟩
   have := h 0 _ rfl
   have e : ((b : Int) + (Ex.num q).n - 1).toNat = b + 0 := by simp [Ex.n]
   unfold begZ
   rw [e,this,if_neg (by simp [Ex.n]; omega)]
   simp [numN,Ex.n]
 | neg x ih =>
   intro b f hok h hb hf
   obtain ⟨f,rfl⟩ : ∃ g,f = g + 1 := ⟨f - 1,by simp [Ex.n] at hf; omega⟩
   have hl := At.left h (u := x.nd b) rfl
   have hr := At.right h (u := x.nd b) rfl 0 _ rfl
   rw [x.nd_len] at hr
   have h1 := x.n_pos
   have e : ((b : Int) + (Ex.neg x).n - 1).toNat = b + x.n + 0 := by simp [Ex.n]; omega
   unfold begZ
   rw [e,hr,if_neg (by simp [Ex.n]; omega)]
   show (if (6 : Int) = 0 ∨ (6 : Int) = 1 then _ else if (6 : Int) = 6 ∨ (6 : Int) = 7 then (if (b : Int) + x.n - 1 ≠ (b : Int) + (Ex.neg x).n - 1 - 1 then fr - 1 else begZ l fr f ((b : Int) + x.n - 1)) else _) = _
   rw [if_neg (by decide),if_pos (by decide),if_neg (by simp [Ex.n]; omega)]
   exact ih b f hok hl hb (by simp [Ex.n] at hf; omega)
 | pow x e0 ih =>
   intro b f hok h hb hf
   obtain ⟨f,rfl⟩ : ∃ g,f = g + 1 := ⟨f - 1,by simp [Ex.n] at hf; omega⟩
   have hl := At.left h (u := x.nd b) rfl
   have hr := At.right h (u := x.nd b) rfl 0 _ rfl
   rw [x.nd_len] at hr
   have h1 := x.n_pos
   have e : ((b : Int) + (Ex.pow x e0).n - 1).toNat = b + x.n + 0 := by simp [Ex.n]; omega
   unfold begZ
   rw [e,hr,if_neg (by simp [Ex.n]; omega)]
   show (if (7 : Int) = 0 ∨ (7 : Int) = 1 then _ else if (7 : Int) = 6 ∨ (7 : Int) = 7 then (if (b : Int) + x.n - 1 ≠ (b : Int) + (Ex.pow x e0).n - 1 - 1 then fr - 1 else begZ l fr f ((b : Int) + x.n - 1)) else _) = _
   rw [if_neg (by decide),if_pos (by decide),if_neg (by simp [Ex.n]; omega)]
   exact ih b f hok.1 hl hb (by simp [Ex.n] at hf; omega)
 | bin k x y ih1 ih2 =>
   intro b f hok h hb hf
   obtain ⟨f,rfl⟩ : ∃ g,f = g + 1 := ⟨f - 1,by simp [Ex.n] at hf; omega⟩
   have hxy := At.left h (u := x.nd b ++ y.nd (b + x.n)) rfl
   have hl := At.left hxy (u := x.nd b) rfl
   have hm := At.right hxy (u := x.nd b) rfl
   rw [x.nd_len] at hm
   have hr := At.right h (u := x.nd b ++ y.nd (b + x.n)) rfl 0 _ rfl
   rw [List.length_append,x.nd_len,y.nd_len] at hr
   have h1 := x.n_pos
   have h2 := y.n_pos
   have e : ((b : Int) + (Ex.bin k x y).n - 1).toNat = b + (x.n + y.n) + 0 := by simp [Ex.n]; omega
   obtain ⟨k1,k2,o1,o2⟩ := hok
   have hf' : b + x.n + y.n ≤ f := by simp [Ex.n] at hf; omega
   have i2 := ih2 (b + x.n) f o2 hm (by omega) (by omega)
   rw [show (((b + x.n : Nat) : Int) + y.n - 1) = (b : Int) + x.n + y.n - 1 by omega] at i2
   have i1 := ih1 b f o1 hl hb (by omega)
   unfold begZ
   rw [e,hr,if_neg (by simp [Ex.n]; omega)]
   show (if k = 0 ∨ k = 1 then _ else if k = 6 ∨ k = 7 then _ else if (b : Int) + x.n + y.n - 1 ≠ (b : Int) + (Ex.bin k x y).n - 1 - 1 then fr - 1 else if begZ l fr f ((b : Int) + x.n + y.n - 1) < fr ∨ (b : Int) + x.n - 1 ≠ begZ l fr f ((b : Int) + x.n + y.n - 1) - 1 then fr - 1 else begZ l fr f ((b : Int) + x.n - 1)) = _
   rw [if_neg (by omega),if_neg (by omega),if_neg (by simp [Ex.n]; omega),i2,if_neg (by omega),i1]
theorem _root_.Go.Tw.At.glue {l : List NodeC} {b : Nat} {u v : List NodeC} (h1 : ∀ j c,u[j]? = some c → l[b + j]? = some c) (h2 : ∀ j c,v[j]? = some c → l[b + u.length + j]? = some c) : ∀ j c,(u ++ v)[j]? = some c → l[b + j]? = some c := by
 intro j c hj
 by_cases h : j < u.length
 · rw [List.getElem?_append_left h] at hj; exact h1 j c hj
 · rw [List.getElem?_append_right (by omega)] at hj
   have := h2 _ c hj
   rw [show b + u.length + (j - u.length) = b + j by omega] at this
   exact this
theorem qzk {l : List NodeC} {fr : Int} (hfr : 0 ≤ fr) (hok : ∀ c ∈ l,(vr c).isSome = true) : ∀ (f : Nat) (i : Int),i < l.length → fr ≤ begZ l fr f i → ∃ (b : Nat) (x : Ex),begZ l fr f i = b ∧ x.ok ∧ At l b x ∧ (b : Int) + x.n - 1 = i := by
 intro f
 induction f with
 | zero => intro i _ h; simp only [begZ] at h; omega
 | succ f ih =>
   intro i hi h
   unfold begZ at h ⊢
   split at h
   · omega
   · rename_i hif
     rw [if_neg hif]
     cases hn : l[i.toNat]? with
     | none => rw [hn] at h; simp only at h; omega
     | some n =>
       rw [hn] at h
       dsimp only at h ⊢
       have hp := hok n (List.mem_of_getElem? hn)
       obtain ⟨k,hk⟩ := Option.isSome_iff_exists.1 hp
       have one : ∀ {b : Nat} {u : List NodeC},b + u.length = i.toNat → ∀ j c,[n][j]? = some c → l[b + u.length + j]? = some c := by
         intro b u e j c hj
         have : j = 0 := by
           have := List.getElem?_eq_some_iff.1 hj
           obtain ⟨h1,_⟩ := this
           simp at h1; exact h1
         subst this
         rw [e]
         simp at hj
         subst hj
         exact hn
       have kk := qkk hk
       have kind : (k = 0 → n.kind = 0 ∨ n.kind = 1) ∧ (k = 1 → n.kind = 6 ∨ n.kind = 7) ∧ (k = 2 → 2 ≤ n.kind ∧ n.kind ≤ 5) := by
         refine ⟨?_,?_,?_⟩
         · rintro rfl
           unfold vr at hk
           by_cases h0 : n.kind = 0
           · exact .inl h0
           · by_cases h1 : n.kind = 1
             · exact .inr h1
             · rw [if_neg h0, if_neg h1] at hk
               repeat' split at hk
               all_goals cases hk
         · rintro rfl
           rcases qki hk with e | ⟨e,_⟩
           · left; rw [e]; rfl
           · right; rw [e]; rfl
         · rintro rfl
           exact (qkj hk).2
       rcases (by omega : k = 0 ∨ k = 1 ∨ k = 2) with rfl | rfl | rfl
       · have h01 := kind.1 rfl
         rw [if_pos h01] at h ⊢
         obtain ⟨x,q1,q2,q3,q4,q5⟩ := qp6 hk
         refine ⟨i.toNat,x,by omega,q1,?_,by rw [q2]; omega⟩
         intro j c hj
         rw [q4] at hj
         exact one (b := i.toNat) (u := []) rfl j c hj
       · have h67 := kind.2.1 rfl
         rw [if_neg (by omega),if_pos h67] at h ⊢
         split at h
         · omega
         · rename_i ha
           rw [if_neg ha]
           have ha : n.a = i - 1 := by omega
           obtain ⟨b,x,e1,q1,q2,q3⟩ := ih n.a (by omega) h
           have key : ∀ y : Ex, y.ok → y.n = x.n + 1 → y.nd b = x.nd b ++ [n] → ∃ (b : Nat) (x : Ex), begZ l fr f n.a = b ∧ x.ok ∧ At l b x ∧ (b : Int) + x.n - 1 = i := fun y hy hn' hd => ⟨b, y, e1, hy, by
             unfold At
             rw [hd]
             exact At.glue q2 (by rw [x.nd_len]; have := one (b := b) (u := x.nd b) (by rw [x.nd_len]; omega); rw [x.nd_len] at this; exact this),by omega⟩
           rcases qki hk with e | ⟨e,he⟩
           · exact key (.neg x) q1 rfl (by rw [e,← q3]; rfl)
           · refine key (.pow x n.e) ⟨q1, he⟩ rfl ?_
             conv => rhs; rw [e,← q3]
             rfl
       · have h25 := kind.2.2 rfl
         rw [if_neg (by omega),if_neg (by omega)] at h ⊢
         split at h
         · omega
         · rename_i hb'
           rw [if_neg hb']
           have hb' : n.b = i - 1 := by omega
           split at h
           · omega
           · rename_i hc
             rw [if_neg hc]
             obtain ⟨b2,y,e2,p1,p2,p3⟩ := ih n.b (by omega) (by omega)
             rw [e2] at hc
             obtain ⟨b,x,e1,q1,q2,q3⟩ := ih n.a (by omega) h
             have hb2 : b2 = b + x.n := by omega
             subst hb2
             obtain ⟨ec,_⟩ := qkj hk
             have hd : (Ex.bin n.kind x y).nd b = x.nd b ++ y.nd (b + x.n) ++ [n] := by
               conv => rhs; rw [ec,← q3,← p3]
               simp only [Ex.nd]
               congr 3
             refine ⟨b,.bin n.kind x y,e1,⟨h25.1,h25.2,q1,p1⟩,?_,by simp only [Ex.n]; omega⟩
             unfold At
             rw [hd]
             refine At.glue (At.glue q2 (by rw [x.nd_len]; exact p2)) ?_
             have := one (b := b) (u := x.nd b ++ y.nd (b + x.n)) (by rw [List.length_append,x.nd_len,y.nd_len]; omega)
             exact this
end Go.Proofs.YtoincnplajnpnaaGreat
namespace Go.Tw
open Go Go.RowKit
section
variable {P : Program} {Q : Exit → Act → World → Prop} {n : Nat} {D : List Deferred} {E : Env} {S S' : World → Prop} {ops : Array Oper} {rest : List Oper} {d : Nat} {op : Op} {ty : TypeId} {pos : String} {aft : Array Edge} {g : Option (Nat × Bool)} {v : Value} {w0 : World} {X : List Nat} {I I0 : Hp} {B B0 R : List Item}
end
end Go.Tw
namespace Go.Tw
open Go Go.RowKit
section
variable {P : Program} {Q : Exit → Act → World → Prop} {n : Nat} {D : List Deferred} {E : Env} {S S' : World → Prop} {ops : Array Oper} {rest : List Oper} {d : Nat} {op : Op} {ty : TypeId} {pos : String} {aft : Array Edge} {g : Option (Nat × Bool)} {v : Value} {w0 : World} {X : List Nat} {I I0 : Hp} {B B0 R : List Item}
theorem qqc {qm : Bool} {t : TypeId} {x ix : Operand} {u iv r : Value} (hg : qi ops E g) (hd : Nat.blt d n = true) (hx : ev E x = some u) (hi : ev E ix = some iv) (hr : ∀ w, (Instr.index t u iv).run P w = .ok r w)
   (k : TL qm P ops Q rest n D ((d,r) :: E) S) : TL qm P ops Q (⟨some d,.index t x ix,ty,pos,aft,g⟩ :: rest) n D E S :=
 o_rd hg hd (v := r) (fun a w ha hw d pos aft g => ⟨w,by simp only [execOp,ha.ev hx,ha.ev hi,Sem.run_bind,hr,Result.andThen_ok]; rfl,rfl⟩) k
end
end Go.Tw
namespace Go.Proofs
open Go.Shelf
def Tryz.lays137_ren : Go.Shelf.Ren := ⟨fun | 137 => 152 | 217 => 162 | 266 => 165 | n => n,fun | 9 => 9 | 5 => 5 | 3 => 3 | n => n,fun | n => n⟩
theorem Tryz.lays137 : Go.Proofs.Lays.n137 prog Tryz.lays137_ren := {
 mixed := by kernel_rfl
 f137 := func152.trans (congrArg some (by kernel_rfl))
 f217 := func162.trans (congrArg some (by kernel_rfl))
 f266 := func165.trans (congrArg some (by kernel_rfl))
 t3 := underlying3
 a3 := isAgg3
 z3 := sizeOf3
 v3 := zeroValue3
 t5 := underlying5
 a5 := isAgg5
 z5 := sizeOf5
 v5 := zeroValue5
 t9 := underlying9
 a9 := isAgg9
 z9 := sizeOf9
 v9 := zeroValue9 }
open Go.RowKit in
theorem Tryz.strings_IndexByte (s : ByteArray) (c : Int) (w : World) :
 Calls prog 152 #[.string s,.int .u8 c] w fun e w' => e = .returned (.int .i64 (Lib.indexByte s.data.toList c.toNat.toUInt8)) ∧ w' = w := Any.strings_IndexByte Tryz.lays137 s c w
end Go.Proofs
namespace Go.Proofs.YtoincnplajnpnaaGreat
open Go Go.Tw
theorem qey (r a b : Int) : jw prog 151 [.int .i32 r,.int .i32 a,.int .i32 b] (.bool (decide (r ≥ a) && decide (r ≤ b))) := by
 intro w
 refine j5 _ func151 rfl ntmps151 rfl ?_ (S := fun w1 => w1 = w) rfl;refine sR ?_;refine oV ?_;refine nS ?_;iterate 3 refine oV ?_
 refine' oY (fun hb10 => ?_) ?_;rotate_left
 ·
  iterate 3 refine gV hb10 ?_
  refine oN ?_;exact qa rfl
 refine oV ?_;refine nE ?_;refine ret1 rfl rfl ?_;exact fun _ hw => ⟨rfl,hw⟩
theorem qzl (r : Int) : jw prog 82 [.int .i64 r] (.int .i64 (yw r)) := by
 intro w
 refine q9 _ func82 rfl ntmps82 rfl ?_ (S := fun w1 => w1 = w) rfl;refine sR ?_;refine oV ?_;refine oN (tC (cS (cB (sR ?_))));iterate 2 refine oV ?_
 refine' oY (fun hb6 => ?_) ?_;rotate_left
 ·
  iterate 2 refine gV hb6 ?_
  refine oN ?_;exact qa rfl
 refine' oZ (fun hb10 => ?_) ?_;rotate_left
 ·
  iterate 2 refine gV hb10 ?_
  refine' qca (wS rfl rfl hb10) (wS rfl rfl hb10) rfl rfl rfl rfl rfl rfl rfl rfl (fun hb13 => ?_) ?_;rotate_left
  ·
   iterate 2 refine gV hb13 ?_
   refine oN ?_;exact qa rfl
  refine oN ?_;exact qa rfl
 refine' oZ (fun hb18 => ?_) ?_;rotate_left
 ·
  iterate 2 refine gV hb18 ?_
  refine oN ?_;exact qa rfl
 refine' oZ (fun hb22 => ?_) ?_;rotate_left
 ·
  iterate 2 refine gV hb22 ?_
  refine' qca (wS rfl rfl hb22) (wS rfl rfl hb22) rfl rfl rfl rfl rfl rfl rfl rfl (fun hb25 => ?_) ?_;rotate_left
  ·
   iterate 2 refine gV hb25 ?_
   refine oN ?_;exact qa rfl
  refine' qca (wS rfl rfl hb22) (wS rfl rfl hb22) rfl rfl rfl rfl rfl rfl rfl rfl (fun hb29 => ?_) ?_;rotate_left
  ·
   iterate 2 refine gV hb29 ?_
   refine oN ?_;exact qa rfl
  refine oN ?_;exact qa rfl
 refine oV ?_;refine nT ?_;refine cC rfl (fun h1 => ?_) (fun h1 => ?_)
 ·
  have f1 := h1;try simp only [bl] at f1
  refine sR ?_;refine oV ?_;refine oN (tC (cT (qd (tR ?_))));refine ret1 rfl rfl ?_;exact fun _ hw => ⟨congrArg (Value.int .i64) (by unfold yw; repeat' split <;> omega),hw⟩
 have f1 := h1;try simp only [bl] at f1
 refine sR ?_;iterate 2 refine oV ?_
 refine' oY (fun hb37 => ?_) ?_;rotate_left
 ·
  iterate 2 refine gV hb37 ?_
  refine oN ?_;exact qa rfl
 refine oV ?_;refine nT ?_;refine cC rfl (fun h2 => ?_) (fun h2 => ?_)
 ·
  have f2 := h2;try simp only [bl] at f2
  refine sR ?_;refine oV ?_;refine oN (tC (cT (qd (tR ?_))));refine ret1 rfl rfl ?_;exact fun _ hw => ⟨congrArg (Value.int .i64) (by unfold yw; repeat' split <;> omega),hw⟩
 have f2 := h2;try simp only [bl] at f2
 refine sR ?_;iterate 2 refine oV ?_
 refine' oZ (fun hb44 => ?_) ?_;rotate_left
 ·
  iterate 2 refine gV hb44 ?_
  refine oN ?_;exact qa rfl
 refine' oZ (fun hb48 => ?_) ?_;rotate_left
 ·
  iterate 2 refine gV hb48 ?_
  refine oN ?_;exact qa rfl
 refine' oZ (fun hb52 => ?_) ?_;rotate_left
 ·
  iterate 2 refine gV hb52 ?_
  refine oN ?_;exact qa rfl
 refine oV ?_;refine nT ?_;refine cC rfl (fun h3 => ?_) (fun h3 => ?_)
 ·
  have f3 := h3;try simp only [bl] at f3
  refine sR ?_;refine oV ?_;refine oN (tC (cT (qd (tR ?_))));refine ret1 rfl rfl ?_;exact fun _ hw => ⟨congrArg (Value.int .i64) (by unfold yw; repeat' split <;> omega),hw⟩
 have f3 := h3;try simp only [bl] at f3
 refine sR ?_;iterate 2 refine oV ?_
 refine' oZ (fun hb59 => ?_) ?_;rotate_left
 ·
  iterate 2 refine gV hb59 ?_
  refine oN ?_;exact qa rfl
 refine' oZ (fun hb63 => ?_) ?_;rotate_left
 ·
  iterate 2 refine gV hb63 ?_
  refine oN ?_;exact qa rfl
 refine' oZ (fun hb67 => ?_) ?_;rotate_left
 ·
  iterate 2 refine gV hb67 ?_
  refine oN ?_;exact qa rfl
 refine' oZ (fun hb71 => ?_) ?_;rotate_left
 ·
  iterate 2 refine gV hb71 ?_
  refine oN ?_;exact qa rfl
 refine' oZ (fun hb75 => ?_) ?_;rotate_left
 ·
  iterate 2 refine gV hb75 ?_
  refine oN ?_;exact qa rfl
 refine' oZ (fun hb79 => ?_) ?_;rotate_left
 ·
  iterate 2 refine gV hb79 ?_
  refine oN ?_;exact qa rfl
 refine' oZ (fun hb83 => ?_) ?_;rotate_left
 ·
  iterate 2 refine gV hb83 ?_
  refine oN ?_;exact qa rfl
 refine' oZ (fun hb87 => ?_) ?_;rotate_left
 ·
  iterate 2 refine gV hb87 ?_
  refine oN ?_;exact qa rfl
 refine' oZ (fun hb91 => ?_) ?_;rotate_left
 ·
  iterate 2 refine gV hb91 ?_
  refine oN ?_;exact qa rfl
 refine oV ?_;refine nT ?_;refine cC rfl (fun h4 => ?_) (fun h4 => ?_)
 ·
  have f4 := h4;try simp only [bl] at f4
  refine sR ?_;refine oV ?_;refine oN (tC (cT (qd (tR ?_))));refine ret1 rfl rfl ?_;exact fun _ hw => ⟨congrArg (Value.int .i64) (by unfold yw; repeat' split <;> omega),hw⟩
 have f4 := h4;try simp only [bl] at f4
 refine cK (qe (tC (sR ?_)));refine oV ?_;refine nE ?_;refine ret1 rfl rfl ?_;exact fun _ hw => ⟨congrArg (Value.int .i64) (by unfold yw; repeat' split <;> omega),hw⟩
theorem qqd (s : ByteArray) (c : Int) : jw prog 152 [.string s, .int .u8 c] (.int .i64 (Lib.indexByte s.data.toList c.toNat.toUInt8)) := fun w =>
 (Tryz.strings_IndexByte s c w).mono fun _ _ ⟨h1,h2⟩ => ⟨_,h1,rfl,h2⟩
set_option maxRecDepth 100000 in
theorem qzm : ∀ x : Fin 128,(decide (Lib.indexByte [32,9,10,13] ((x.val : Int).toNat.toUInt8) ≥ 0)) = decide (x.val = 9 ∨ x.val = 10 ∨ x.val = 13 ∨ x.val = 32) := by decide
set_option maxRecDepth 100000 in
theorem qzn : ∀ x : Fin 128,(decide (Lib.indexByte [43,45,42,47,94,40,41,61,59,44] ((x.val : Int).toNat.toUInt8) ≥ 0)) = decide (x.val = 43 ∨ x.val = 45 ∨ x.val = 42 ∨ x.val = 47 ∨ x.val = 94 ∨ x.val = 40 ∨ x.val = 41 ∨ x.val = 61 ∨ x.val = 59 ∨ x.val = 44) := by decide
theorem qzo (r : Int) (h : (0 : Int) ≤ r ∧ r ≤ 127) : decide (Lib.indexByte [32,9,10,13] ((IntKind.u8.wrap r).toNat.toUInt8) ≥ 0) = decide (r = 9 ∨ r = 10 ∨ r = 13 ∨ r = 32) := by
 have e : IntKind.u8.wrap r = r := IntWalk.u8_in r ⟨h.1,by omega⟩
 rw [e]
 have := qzm ⟨r.toNat,by omega⟩
 simp only at this
 rw [show ((r.toNat : Nat) : Int) = r by omega] at this
 rw [this]
 apply decide_eq_decide.2
 omega
theorem qzp (r : Int) (h : (0 : Int) ≤ r ∧ r ≤ 127) : decide (Lib.indexByte [43,45,42,47,94,40,41,61,59,44] ((IntKind.u8.wrap r).toNat.toUInt8) ≥ 0) = decide (r = 43 ∨ r = 45 ∨ r = 42 ∨ r = 47 ∨ r = 94 ∨ r = 40 ∨ r = 41 ∨ r = 61 ∨ r = 59 ∨ r = 44) := by
 have e : IntKind.u8.wrap r = r := IntWalk.u8_in r ⟨h.1,by omega⟩
 rw [e]
 have := qzn ⟨r.toNat,by omega⟩
 simp only at this
 rw [show ((r.toNat : Nat) : Int) = r by omega] at this
 rw [this]
 apply decide_eq_decide.2
 omega
theorem qzq (r : Int) : 0 ≤ r ∧ r ≤ 127 → (0 ≤ Lib.indexByte [32, 9, 10, 13] ((IntKind.u8.wrap r).toNat.toUInt8) ↔ (r = 9 ∨ r = 10 ∨ r = 13 ∨ r = 32)) := fun h => by
 have := qzo r h
 rw [decide_eq_decide] at this
 exact this
theorem qzr (r : Int) : 0 ≤ r ∧ r ≤ 127 → (0 ≤ Lib.indexByte [43, 45, 42, 47, 94, 40, 41, 61, 59, 44] ((IntKind.u8.wrap r).toNat.toUInt8) ↔ (r = 43 ∨ r = 45 ∨ r = 42 ∨ r = 47 ∨ r = 94 ∨ r = 40 ∨ r = 41 ∨ r = 61 ∨ r = 59 ∨ r = 44)) := fun h => by
 have := qzp r h
 rw [decide_eq_decide] at this
 exact this
theorem qzs (r : Int) : jw prog 138 [.int .i32 r] (.int .i64 (yw r)) := by
 have hb := qzq r
 have hm := qzr r
 intro w
 refine q9 _ func138 rfl ntmps138 rfl ?_ (S := fun w1 => w1 = w) rfl;refine sR ?_;refine oV ?_;refine oN (tC (cS (cB (sR ?_))));refine oV ?_;refine oP trivial rfl call151 rfl (qey _ _ _) ?_;refine' oZ (fun hb6 => ?_) ?_;rotate_left
 ·
  have fb6 := hb6
  try simp only [bl] at fb6
  refine gV hb6 ?_;refine oP (wS rfl rfl hb6) rfl call151 rfl (qey _ _ _) ?_;refine oN ?_;exact qa rfl
 refine' oZ (fun hb10 => ?_) ?_;rotate_left
 ·
  iterate 2 refine gV hb10 ?_
  refine oN ?_;exact qa rfl
 refine' oZ (fun hb14 => ?_) ?_;rotate_left
 ·
  have fb14 := hb14
  try simp only [bl] at fb14
  refine gV hb14 ?_;refine oP (wS rfl rfl hb14) rfl call151 rfl (qey _ _ _) ?_;refine' qca (wS rfl rfl hb14) (wS rfl rfl hb14) rfl rfl rfl rfl rfl rfl rfl rfl (fun hb17 => ?_) ?_;rotate_left
  ·
   iterate 2 refine gV hb17 ?_
   refine oN ?_;exact qa rfl
  refine oN ?_;exact qa rfl
 refine oV ?_;refine nT ?_;refine cC rfl (fun h1 => ?_) (fun h1 => ?_)
 ·
  have f1 := h1;try simp only [bl] at f1
  refine sR ?_;refine oV ?_;refine oN (tC (cT (qd (tR ?_))));refine ret1 rfl rfl ?_;exact fun _ hw => ⟨congrArg (Value.int .i64) (by unfold yw; repeat' split <;> omega),hw⟩
 have f1 := h1;try simp only [bl] at f1
 refine sR ?_;refine oV ?_;refine oP trivial rfl call151 rfl (qey _ _ _) ?_;refine oV ?_;refine nT ?_;refine cC rfl (fun h2 => ?_) (fun h2 => ?_)
 ·
  have f2 := h2;try simp only [bl] at f2
  refine sR ?_;refine oV ?_;refine oN (tC (cT (qd (tR ?_))));refine ret1 rfl rfl ?_;exact fun _ hw => ⟨congrArg (Value.int .i64) (by unfold yw; repeat' split <;> omega),hw⟩
 have f2 := h2;try simp only [bl] at f2
 refine sR ?_;refine oV ?_;refine oP trivial rfl call151 rfl (qey _ _ _) ?_;refine' oY (fun hb28 => ?_) ?_;rotate_left
 ·
  have fb28 := hb28
  try simp only [bl] at fb28
  refine gV hb28 ?_;refine qav (wS rfl rfl hb28) rfl underlying21 underlying5 rfl ?_;refine oP (wS rfl rfl hb28) rfl call152 rfl (qqd _ _) ?_;refine gV hb28 ?_;refine oN ?_;exact qa rfl
 refine oV ?_;refine nT ?_;refine cC rfl (fun h3 => ?_) (fun h3 => ?_)
 ·
  have f3 := h3;try simp only [bl] at f3
  refine sR ?_;refine oV ?_;refine oN (tC (cT (qd (tR ?_))));refine ret1 rfl rfl ?_;exact fun _ hw => ⟨congrArg (Value.int .i64) (by unfold yw; repeat' split <;> omega),hw⟩
 have f3 := h3;try simp only [bl] at f3
 refine sR ?_;refine oV ?_;refine oP trivial rfl call151 rfl (qey _ _ _) ?_;refine' oY (fun hb37 => ?_) ?_;rotate_left
 ·
  have fb37 := hb37
  try simp only [bl] at fb37
  refine gV hb37 ?_;refine qav (wS rfl rfl hb37) rfl underlying21 underlying5 rfl ?_;refine oP (wS rfl rfl hb37) rfl call152 rfl (qqd _ _) ?_;refine gV hb37 ?_;refine oN ?_;exact qa rfl
 refine oV ?_;refine nT ?_;refine cC rfl (fun h4 => ?_) (fun h4 => ?_)
 ·
  have f4 := h4;try simp only [bl] at f4
  refine sR ?_;refine oV ?_;refine oN (tC (cT (qd (tR ?_))));refine ret1 rfl rfl ?_;exact fun _ hw => ⟨congrArg (Value.int .i64) (by unfold yw; repeat' split <;> omega),hw⟩
 have f4 := h4;try simp only [bl] at f4
 refine cK (qe (tC (sR ?_)));refine oV ?_;refine nE ?_;refine ret1 rfl rfl ?_;exact fun _ hw => ⟨congrArg (Value.int .i64) (by unfold yw; repeat' split <;> omega),hw⟩
theorem qzt (s : ByteArray) : jw prog 137 [.string s] (.bool (keyZ s)) := by
 intro w
 refine q9 _ func137 rfl ntmps137 rfl ?_ (S := fun w1 => w1 = w) rfl;refine sR ?_;refine oV ?_;refine nS ?_;iterate 2 refine oV ?_
 refine' oZ (fun hb5 => ?_) ?_;rotate_left
 ·
  iterate 2 refine gV hb5 ?_
  refine oN ?_;exact qa rfl
 refine' oZ (fun hb9 => ?_) ?_;rotate_left
 ·
  iterate 2 refine gV hb9 ?_
  refine oN ?_;exact qa rfl
 refine oV ?_;refine nE ?_;refine ret1 rfl rfl ?_;exact fun _ hw => ⟨rfl,hw⟩
theorem qzu (s : ByteArray) : jw prog 80 [.string s] (.bool (keyZ s)) := by
 intro w
 refine q9 _ func80 rfl ntmps80 rfl ?_ (S := fun w1 => w1 = w) rfl;refine sR ?_;refine oV ?_;refine nS ?_;iterate 2 refine oV ?_
 refine' oZ (fun hb5 => ?_) ?_;rotate_left
 ·
  iterate 2 refine gV hb5 ?_
  refine oN ?_;exact qa rfl
 refine' oZ (fun hb9 => ?_) ?_;rotate_left
 ·
  iterate 2 refine gV hb9 ?_
  refine oN ?_;exact qa rfl
 refine oV ?_;refine nE ?_;refine ret1 rfl rfl ?_;exact fun _ hw => ⟨rfl,hw⟩
theorem qdt (s : ByteArray) (i a b : Int) (hi : 0 ≤ i) : jw prog 113 [.string s,.int .i64 i,.int .i64 a,.int .i64 b] (.bool (inZ s i a b)) := by
 have hbyte := (s.get! i.toNat).toNat_lt
 intro w
 refine qfd _ func113 rfl ntmps113 rfl ?_ (S := fun w1 => w1 = w) rfl;refine sR ?_;refine oV ?_;refine nS ?_;iterate 2 refine oV ?_
 refine qau trivial rfl underlying9 rfl ?_;refine oV ?_;refine' oY (fun hb13 => ?_) ?_;rotate_left
 ·
  have fb13 := hb13
  try simp only [bl] at fb13
  iterate 2 refine gV hb13 ?_
  refine qbd (wS rfl rfl hb13) rfl underlying9 rfl rfl (by omega) ?_;refine ya (wS rfl rfl hb13) rfl underlying5 underlying3 rfl (by rw [IntWalk.i64_in _ (by omega)]) ?_;iterate 2 refine gV hb13 ?_
  refine oN ?_;exact qa rfl
 refine' oY (fun hb21 => ?_) ?_;rotate_left
 ·
  have fb21 := hb21
  try simp only [bl] at fb21
  iterate 2 refine gV hb21 ?_
  refine qbd (wS rfl rfl hb21) rfl underlying9 rfl rfl (by omega) ?_;refine ya (wS rfl rfl hb21) rfl underlying5 underlying3 rfl (by rw [IntWalk.i64_in _ (by omega)]) ?_;iterate 2 refine gV hb21 ?_
  refine oN ?_;exact qa rfl
 refine oV ?_;refine nE ?_;refine ret1 rfl rfl ?_;exact fun _ hw => ⟨rfl,hw⟩
theorem qez (s : ByteArray) (i : Int) (hi : 0 ≤ i ∧ i < s.size) : jw prog 114 [.string s,.int .i64 i] (.int .i64 ((s.get! i.toNat).toNat % 64)) := by
 have hbyte := (s.get! i.toNat).toNat_lt
 intro w
 refine qv _ func114 rfl ntmps114 rfl ?_ (S := fun w1 => w1 = w) rfl;refine sR ?_;refine oV ?_;refine nS ?_;iterate 2 refine oV ?_
 refine qbd trivial rfl underlying9 rfl rfl (by omega) ?_;refine ya trivial rfl underlying5 underlying3 rfl (by rw [IntWalk.i64_in _ (by omega)]) ?_;refine j6 trivial rfl rfl rfl (by omega) ?_;refine oV ?_;refine nE ?_;refine ret1 rfl rfl ?_;exact fun _ hw => ⟨rfl,hw⟩
theorem qzv (s : ByteArray) (i : Int) (hi : 0 ≤ i ∧ i < s.size) (hs : s.size ≤ 1000) : jw prog 115 [.string s,.int .i64 i] (.int .i64 (qdi s i)) := by
 have hbyte := (s.get! i.toNat).toNat_lt
 have hbyte1 := (s.get! (i + 1).toNat).toNat_lt
 have hbyte2 := (s.get! (i + 2).toNat).toNat_lt
 intro w
 refine qv _ func115 rfl ntmps115 rfl ?_ (S := fun w1 => w1 = w) rfl;refine sR ?_;refine oV ?_;refine nS ?_;iterate 2 refine oV ?_
 refine qbd trivial rfl underlying9 rfl rfl (by omega) ?_;refine ya trivial rfl underlying5 underlying3 rfl (by rw [IntWalk.i64_in _ (by omega)]) ?_;refine oV ?_;refine nS ?_;refine oV ?_;refine nS ?_;refine oV ?_;refine nT ?_;refine jk (ι := Int) [0,1,5,7] (.cons rfl (.cons rfl (.cons rfl (.cons rfl .nil)))) (fun fr E0 => (6,.int .i64 fr) :: E0) (fun fr => fun w1 => w1 = w) (fun fr => fr = if ((s.get! i.toNat).toNat : Int) = 224 then 160 else 128) ?_ ?_
 ·
  refine sR ?_;iterate 2 refine oV ?_
  refine nT ?_;refine cC rfl (fun h1 => ?_) (fun h1 => ?_)
  ·
   have f1 := h1;try simp only [bl] at f1
   refine cR ?_;refine oV ?_;refine oN ?_;exact meet _ (sC rfl (sC rfl (sC rfl (sC rfl (sC rfl sN))))) (fun _ h => h) (by rw [if_pos f1])
  have f1 := h1;try simp only [bl] at f1
  refine cK ?_;exact meet _ (sC rfl (sC rfl (sC rfl (sC rfl (sC rfl sN))))) (fun _ h => h) (by rw [if_neg f1])
 rintro fr hfr
 try dsimp only
 refine jk (ι := Int) [0,1,5,6] (.cons rfl (.cons rfl (.cons rfl (.cons rfl .nil)))) (fun to E0 => (7,.int .i64 to) :: E0) (fun to => fun w1 => w1 = w) (fun to => to = if ((s.get! i.toNat).toNat : Int) = 237 then 159 else 191) ?_ ?_
 ·
  refine sR ?_;iterate 2 refine oV ?_
  refine nT ?_;refine cC rfl (fun h2 => ?_) (fun h2 => ?_)
  ·
   have f2 := h2;try simp only [bl] at f2
   refine cR ?_;refine oV ?_;refine oN ?_;exact meet _ (sC rfl (sC rfl (sC rfl (sC rfl (sC rfl sN))))) (fun _ h => h) (by rw [if_pos f2])
  have f2 := h2;try simp only [bl] at f2
  refine cK ?_;exact meet _ (sC rfl (sC rfl (sC rfl (sC rfl (sC rfl sN))))) (fun _ h => h) (by rw [if_neg f2])
 rintro to hto
 try dsimp only
 refine cS (sR ?_);iterate 2 refine oV ?_
 refine' oZ (fun hb18 => ?_) ?_;rotate_left
 ·
  iterate 2 refine gV hb18 ?_
  refine oN ?_;exact qa rfl
 refine' oZ (fun hb22 => ?_) ?_;rotate_left
 ·
  have fb22 := hb22
  try simp only [bl] at fb22
  iterate 2 refine gV hb22 ?_
  (refine qf (wS rfl rfl hb22) rfl rfl rfl ?_ ?_; (omega))
  iterate 2 refine gV hb22 ?_
  refine oP (wS rfl rfl hb22) rfl call113 rfl (qdt _ _ _ _ (by omega)) ?_;refine gV hb22 ?_;refine oN ?_;exact qa rfl
 refine' oZ (fun hb31 => ?_) ?_;rotate_left
 ·
  have fb31 := hb31
  try simp only [bl] at fb31
  iterate 2 refine gV hb31 ?_
  (refine qf (wS rfl rfl hb31) rfl rfl rfl ?_ ?_; (omega))
  refine oP (wS rfl rfl hb31) rfl call113 rfl (qdt _ _ _ _ (by omega)) ?_;refine gV hb31 ?_;refine oN ?_;exact qa rfl
 refine nT ?_;refine cC rfl (fun h3 => ?_) (fun h3 => ?_)
 ·
  have f3 := h3;try simp only [bl] at f3
  refine sR ?_;refine oV ?_;refine nF ?_;refine ret1 rfl rfl ?_;refine fun _ hw => ⟨congrArg (Value.int .i64) ?_,hw⟩
  unfold qdi
  rw [← hfr,← hto,if_pos (by rcases f3 with ((f | f) | f) | f <;> simp [f])]
 have f3 := h3;try simp only [bl] at f3
 have g1 := qeq f3.1.2; have g2 := qeq f3.2
 refine kS ?_;refine oV ?_
 (refine vy trivial rfl rfl rfl ?_ ?_; (omega))
 (refine zi trivial rfl rfl rfl ?_ ?_; (omega))
 iterate 2 refine oV ?_
 (refine qf trivial rfl rfl rfl ?_ ?_; (omega))
 refine oP trivial rfl call114 rfl (qez _ _ (by omega)) ?_
 (refine zi trivial rfl rfl rfl ?_ ?_; (omega))
 (refine qf trivial rfl rfl rfl ?_ ?_; (omega))
 iterate 2 refine oV ?_
 (refine qf trivial rfl rfl rfl ?_ ?_; (omega))
 refine oP trivial rfl call114 rfl (qez _ _ (by omega)) ?_
 (refine qf trivial rfl rfl rfl ?_ ?_; (omega))
 refine oV ?_;refine nE ?_;refine ret1 rfl rfl ?_;refine fun _ hw => ⟨congrArg (Value.int .i64) ?_,hw⟩
 unfold qdi
 rw [← hfr,← hto,if_neg (by simp [f3])]
theorem qzw (s : ByteArray) (i : Int) (hi : 0 ≤ i ∧ i < s.size) (hs : s.size ≤ 1000) : jw prog 116 [.string s,.int .i64 i] (.int .i64 (qdj s i)) := by
 have hbyte := (s.get! i.toNat).toNat_lt
 have hbyte1 := (s.get! (i + 1).toNat).toNat_lt
 have hbyte2 := (s.get! (i + 2).toNat).toNat_lt
 have hbyte3 := (s.get! (i + 3).toNat).toNat_lt
 intro w
 refine qv _ func116 rfl ntmps116 rfl ?_ (S := fun w1 => w1 = w) rfl;refine sR ?_;refine oV ?_;refine nS ?_;iterate 2 refine oV ?_
 refine qbd trivial rfl underlying9 rfl rfl (by omega) ?_;refine ya trivial rfl underlying5 underlying3 rfl (by rw [IntWalk.i64_in _ (by omega)]) ?_;refine oV ?_;refine nS ?_;refine oV ?_;refine nS ?_;refine oV ?_;refine nT ?_;refine jk (ι := Int) [0,1,5,7] (.cons rfl (.cons rfl (.cons rfl (.cons rfl .nil)))) (fun fr E0 => (6,.int .i64 fr) :: E0) (fun fr => fun w1 => w1 = w) (fun fr => fr = if ((s.get! i.toNat).toNat : Int) = 240 then 144 else 128) ?_ ?_
 ·
  refine sR ?_;iterate 2 refine oV ?_
  refine nT ?_;refine cC rfl (fun h1 => ?_) (fun h1 => ?_)
  ·
   have f1 := h1;try simp only [bl] at f1
   refine cR ?_;refine oV ?_;refine oN ?_;exact meet _ (sC rfl (sC rfl (sC rfl (sC rfl (sC rfl sN))))) (fun _ h => h) (by rw [if_pos f1])
  have f1 := h1;try simp only [bl] at f1
  refine cK ?_;exact meet _ (sC rfl (sC rfl (sC rfl (sC rfl (sC rfl sN))))) (fun _ h => h) (by rw [if_neg f1])
 rintro fr hfr
 try dsimp only
 refine jk (ι := Int) [0,1,5,6] (.cons rfl (.cons rfl (.cons rfl (.cons rfl .nil)))) (fun to E0 => (7,.int .i64 to) :: E0) (fun to => fun w1 => w1 = w) (fun to => to = if ((s.get! i.toNat).toNat : Int) = 244 then 143 else 191) ?_ ?_
 ·
  refine sR ?_;iterate 2 refine oV ?_
  refine nT ?_;refine cC rfl (fun h2 => ?_) (fun h2 => ?_)
  ·
   have f2 := h2;try simp only [bl] at f2
   refine cR ?_;refine oV ?_;refine oN ?_;exact meet _ (sC rfl (sC rfl (sC rfl (sC rfl (sC rfl sN))))) (fun _ h => h) (by rw [if_pos f2])
  have f2 := h2;try simp only [bl] at f2
  refine cK ?_;exact meet _ (sC rfl (sC rfl (sC rfl (sC rfl (sC rfl sN))))) (fun _ h => h) (by rw [if_neg f2])
 rintro to hto
 try dsimp only
 refine cS (sR ?_);iterate 2 refine oV ?_
 refine' oZ (fun hb18 => ?_) ?_;rotate_left
 ·
  iterate 2 refine gV hb18 ?_
  refine oN ?_;exact qa rfl
 refine' oZ (fun hb22 => ?_) ?_;rotate_left
 ·
  have fb22 := hb22
  try simp only [bl] at fb22
  iterate 2 refine gV hb22 ?_
  (refine qf (wS rfl rfl hb22) rfl rfl rfl ?_ ?_; (omega))
  iterate 2 refine gV hb22 ?_
  refine oP (wS rfl rfl hb22) rfl call113 rfl (qdt _ _ _ _ (by omega)) ?_;refine gV hb22 ?_;refine oN ?_;exact qa rfl
 refine' oZ (fun hb31 => ?_) ?_;rotate_left
 ·
  have fb31 := hb31
  try simp only [bl] at fb31
  iterate 2 refine gV hb31 ?_
  (refine qf (wS rfl rfl hb31) rfl rfl rfl ?_ ?_; (omega))
  refine oP (wS rfl rfl hb31) rfl call113 rfl (qdt _ _ _ _ (by omega)) ?_;refine gV hb31 ?_;refine oN ?_;exact qa rfl
 refine' oZ (fun hb38 => ?_) ?_;rotate_left
 ·
  have fb38 := hb38
  try simp only [bl] at fb38
  iterate 2 refine gV hb38 ?_
  (refine qf (wS rfl rfl hb38) rfl rfl rfl ?_ ?_; (omega))
  refine oP (wS rfl rfl hb38) rfl call113 rfl (qdt _ _ _ _ (by omega)) ?_;refine gV hb38 ?_;refine oN ?_;exact qa rfl
 refine nT ?_;refine cC rfl (fun h3 => ?_) (fun h3 => ?_)
 ·
  have f3 := h3;try simp only [bl] at f3
  refine sR ?_;refine oV ?_;refine nF ?_;refine ret1 rfl rfl ?_;refine fun _ hw => ⟨congrArg (Value.int .i64) ?_,hw⟩
  unfold qdj
  rw [← hfr,← hto,if_pos (by rcases f3 with (((f | f) | f) | f) | f <;> simp [f])]
 have f3 := h3;try simp only [bl] at f3
 have g1 := qeq f3.1.1.2; have g2 := qeq f3.1.2; have g3 := qeq f3.2
 refine kS ?_;refine oV ?_
 (refine vy trivial rfl rfl rfl ?_ ?_; (omega))
 (refine zi trivial rfl rfl rfl ?_ ?_; (omega))
 iterate 2 refine oV ?_
 (refine qf trivial rfl rfl rfl ?_ ?_; (omega))
 refine oP trivial rfl call114 rfl (qez _ _ (by omega)) ?_
 (refine zi trivial rfl rfl rfl ?_ ?_; (omega))
 (refine qf trivial rfl rfl rfl ?_ ?_; (omega))
 iterate 2 refine oV ?_
 (refine qf trivial rfl rfl rfl ?_ ?_; (omega))
 refine oP trivial rfl call114 rfl (qez _ _ (by omega)) ?_
 (refine zi trivial rfl rfl rfl ?_ ?_; (omega))
 (refine qf trivial rfl rfl rfl ?_ ?_; (omega))
 iterate 2 refine oV ?_
 (refine qf trivial rfl rfl rfl ?_ ?_; (omega))
 refine oP trivial rfl call114 rfl (qez _ _ (by omega)) ?_
 (refine qf trivial rfl rfl rfl ?_ ?_; (omega))
 refine oV ?_;refine nE ?_;refine ret1 rfl rfl ?_;refine fun _ hw => ⟨congrArg (Value.int .i64) ?_,hw⟩
 unfold qdj
 rw [← hfr,← hto,if_neg (by simp [f3])]
theorem eq2 {k k2 : IntKind} {p q : Int} {r : Int × Int} (h : r = (p,q)) : Value.tuple #[.int k p,.int k2 q] = .tuple #[.int k r.1,.int k2 r.2] := by rw [h]
theorem qzx (s : ByteArray) (i : Int) (hs : s.size ≤ 1000) : jw prog 81 [.string s,.int .i64 i] (.tuple #[.int .i64 (qeo s i).1,.int .i64 (qeo s i).2]) := by
 rw [← qyn]
 have hbyte := (s.get! i.toNat).toNat_lt
 have hbyte1 := (s.get! (i + 1).toNat).toNat_lt
 intro w
 refine qv _ func81 rfl ntmps81 rfl ?_ (S := fun w1 => w1 = w) rfl;refine sR ?_;iterate 2 refine oV ?_
 refine nU ?_;iterate 2 refine oV ?_
 refine' oZ (fun hb11 => ?_) ?_;rotate_left
 ·
  have fb11 := hb11
  try simp only [bl] at fb11
  iterate 2 refine gV hb11 ?_
  refine qau (wS rfl rfl hb11) rfl underlying9 rfl ?_;refine gV hb11 ?_;refine oN ?_;exact qa rfl
 refine nT ?_;refine cC rfl (fun h1 => ?_) (fun h1 => ?_)
 ·
  have f1 := h1;try simp only [bl] at f1
  refine sR ?_;iterate 2 refine oV ?_
  refine nF ?_;refine ret2 rfl rfl rfl ?_;exact fun _ hw => ⟨eq2 (by unfold qcv; rw [if_pos f1]),hw⟩
 have f1 := h1;try simp only [bl] at f1
 refine kS ?_;iterate 2 refine oV ?_
 refine qbd trivial rfl underlying9 rfl rfl (by omega) ?_;refine ya trivial rfl underlying5 underlying3 rfl (by rw [IntWalk.i64_in _ (by omega)]) ?_;refine oV ?_;refine nU ?_;iterate 2 refine oV ?_
 refine nT ?_;refine cC rfl (fun h2 => ?_) (fun h2 => ?_)
 ·
  have f2 := h2;try simp only [bl] at f2
  refine sR ?_;iterate 3 refine oV ?_
  refine nF ?_;refine ret2 rfl rfl rfl ?_;exact fun _ hw => ⟨eq2 (by unfold qcv; rw [if_neg (by omega),if_pos f2]),hw⟩
 have f2 := h2;try simp only [bl] at f2
 refine cK (tC (cS (sR ?_)));iterate 2 refine oV ?_
 refine oP trivial rfl call113 rfl (qdt _ _ _ _ (by omega)) ?_;refine' oY (fun hb27 => ?_) ?_;rotate_left
 ·
  have fb27 := hb27
  try simp only [bl] at fb27
  iterate 2 refine gV hb27 ?_
  (refine qf (wS rfl rfl hb27) rfl rfl rfl ?_ ?_; (omega))
  refine oP (wS rfl rfl hb27) rfl call113 rfl (qdt _ _ _ _ (by omega)) ?_;refine oN ?_;exact qa rfl
 refine nT ?_;refine cC rfl (fun h3 => ?_) (fun h3 => ?_)
 ·
  have f3 := h3;try simp only [bl] at f3
  have g1 := qeq f3.2
  refine sR ?_;refine oV ?_
  (refine vy trivial rfl rfl rfl ?_ ?_; (omega))
  (refine zi trivial rfl rfl rfl ?_ ?_; (omega))
  iterate 2 refine oV ?_
  (refine qf trivial rfl rfl rfl ?_ ?_; (omega))
  refine oP trivial rfl call114 rfl (qez _ _ (by omega)) ?_
  (refine qf trivial rfl rfl rfl ?_ ?_; (omega))
  iterate 2 refine oV ?_
  refine nF ?_;refine ret2 rfl rfl rfl ?_;exact fun _ hw => ⟨eq2 (by unfold qcv; rw [if_neg (by omega),if_neg (by omega),if_pos h3]),hw⟩
 have f3 := h3;try simp only [bl] at f3
 refine kS ?_;iterate 2 refine oV ?_
 refine oP trivial rfl call115 rfl (qzv _ _ (by omega) (by omega)) ?_;refine oV ?_;refine nU ?_;iterate 2 refine oV ?_
 refine nT ?_;refine cC rfl (fun h4 => ?_) (fun h4 => ?_)
 ·
  have f4 := h4;try simp only [bl] at f4
  refine sR ?_;iterate 3 refine oV ?_
  refine nF ?_;refine ret2 rfl rfl rfl ?_;exact fun _ hw => ⟨eq2 (by unfold qcv; rw [if_neg (by omega),if_neg (by omega),if_neg (by rw [h3]; exact Bool.false_ne_true),if_pos f4]),hw⟩
 have f4 := h4;try simp only [bl] at f4
 refine kS ?_;iterate 2 refine oV ?_
 refine oP trivial rfl call116 rfl (qzw _ _ (by omega) (by omega)) ?_;refine oV ?_;refine nU ?_;iterate 2 refine oV ?_
 refine nT ?_;refine cC rfl (fun h5 => ?_) (fun h5 => ?_)
 ·
  have f5 := h5;try simp only [bl] at f5
  refine sR ?_;iterate 3 refine oV ?_
  refine nF ?_;refine ret2 rfl rfl rfl ?_;exact fun _ hw => ⟨eq2 (by unfold qcv; rw [if_neg (by omega),if_neg (by omega),if_neg (by rw [h3]; exact Bool.false_ne_true),if_neg (by omega),if_pos f5]),hw⟩
 have f5 := h5;try simp only [bl] at f5
 refine kS ?_;iterate 2 refine oV ?_
 refine nE ?_;refine ret2 rfl rfl rfl ?_;exact fun _ hw => ⟨eq2 (by unfold qcv; rw [if_neg (by omega),if_neg (by omega),if_neg (by rw [h3]; exact Bool.false_ne_true),if_neg (by omega),if_neg (by omega)]),hw⟩
theorem qzy {s : ByteArray} {i : Nat} (h : i < s.size) : qeo s (i : Int) = (((Utf8.decode s i).1 : Int),((Utf8.decode s i).2 : Int)) := by
 unfold qeo
 rw [if_neg (by omega)]
 rfl
theorem qzz (s : ByteArray) (i : Nat) (hs : s.size ≤ 1000) (hi : i < s.size) : jw prog 81 [.string s,.int .i64 (i : Int)] (.tuple #[.int .i64 ((Utf8.decode s i).1 : Int),.int .i64 ((Utf8.decode s i).2 : Int)]) := by
 have h := qzx s i hs
 rw [qzy hi] at h
 exact h
theorem qkn (s : ByteArray) {I : Hp} : Fun prog 119 [.string s] I [] (fun v _ _ => v = .bool (yk s)) := by
 intro w hw
 refine q9 _ func119 rfl ntmps119 rfl ?_ hw;refine sR ?_;refine oV ?_;refine nU ?_;iterate 2 refine oV ?_
 refine' oZ (fun hb8 => ?_) ?_;rotate_left
 ·
  have fb8 := hb8
  try simp only [bl] at fb8
  refine gV hb8 ?_;refine qau (wS rfl rfl hb8) rfl underlying9 rfl ?_;refine gV hb8 ?_;refine oN ?_;exact qa rfl
 refine' oZ (fun hb13 => ?_) ?_;rotate_left
 ·
  have fb13 := hb13
  try simp only [bl] at fb13
  refine gV hb13 ?_;refine oP (wS rfl rfl hb13) rfl call137 rfl (qzt _) ?_;refine oN ?_;exact qa rfl
 refine nT ?_;refine cC rfl (fun h1 => ?_) (fun h1 => ?_)
 ·
  have f1 := h1;try simp only [bl] at f1
  simp only [qpq] at f1
  refine sR ?_;refine oV ?_;refine nF ?_;refine ret1 rfl rfl ?_;refine qg ?_; rw [qpp (by rcases f1 with (f | f) | f; exact .inl (by omega); exact .inr (.inl (by omega)); exact .inr (.inr f))]
 have f1 := h1;try simp only [bl] at f1
 simp only [qpq] at f1
 refine cK (tC (cS (sR ?_)));refine oV ?_;refine qto trivial rfl underlying9 rfl (fun b18 => ?_);refine oN (tC (cB ?_));refine qu (ι := Nat) [18] (.cons rfl .nil) (fun x => s.size - x) (fun x E0 => E0) (fun x => St w [] I [.box b18 (.stringIter s x)]) (fun x => x ≤ s.size ∧ yk s = zg s (s.size - x) x) (0) (sC rfl sN) (fun _ h => h) (⟨Nat.zero_le _,qpo (by omega) (by omega) f1.2⟩) ?_;rintro i ⟨hle,hF⟩
 try dsimp only
 have hwd := jq s i
 refine cS ?_
 rcases Nat.lt_or_ge i s.size with hp | hp
 ·
  refine cR ?_;refine qtp trivial rfl rfl (by repeat constructor) hp ?_;refine oV ?_;refine oN (tC (cS ?_));refine ql0 rfl rfl ?_;refine cK (tC (cB (sR ?_)));iterate 4 refine oV ?_
  refine nS ?_;refine oV ?_;refine oP trivial rfl call138 rfl (qzs _) ?_;refine oV ?_;refine nS ?_;iterate 2 refine oV ?_
  refine' oY (fun hb27 => ?_) ?_;rotate_left
  ·
   iterate 2 refine gV hb27 ?_
   refine' o_or (wS rfl rfl hb27) (wS rfl rfl hb27) rfl rfl rfl rfl rfl rfl rfl rfl (fun hb30 => ?_) ?_;rotate_left
   ·
    iterate 2 refine gV hb30 ?_
    refine oN ?_;exact qa rfl
   refine oN ?_;exact qa rfl
  refine nT ?_;refine cC rfl (fun h3 => ?_) (fun h3 => ?_)
  ·
   have f3 := h3;try simp only [bl] at f3
   refine sR ?_;refine oV ?_;refine oN (tC (cT (qd (tR (qd (tR ?_))))));refine ret1 rfl rfl ?_;refine qg ?_; rw [hF,qpl hp (by omega)]
  have f3 := h3;try simp only [bl] at f3
  refine cK (qe ?_)
  have hwi := qb2 s i hp; exact qj _ (sC rfl sN) (fun _ h => h) (by show s.size - (i + (Utf8.decode s i).2) < s.size - i; omega) ⟨by omega,hF.trans (qpm hp (by omega))⟩
 refine cR ?_;refine qtq trivial rfl rfl (by repeat constructor) hp ?_;refine oV ?_;refine oN (tC (cS ?_));refine qie rfl rfl ?_;refine qq (qc (qc (qp rfl (tC (sR ?_)))));refine oV ?_;refine nE ?_;refine ret1 rfl rfl ?_;refine qg ?_; rw [hF,qpn (by omega)]
theorem qko (s : ByteArray) : jw prog 52 [.string s] (.bool (yk s)) := by
 intro w
 refine q9 _ func52 rfl ntmps52 rfl ?_ (S := fun w1 => w1 = w) rfl;refine sR ?_;refine oV ?_;refine nU ?_;refine oV ?_;refine qau trivial rfl underlying9 rfl ?_;refine oV ?_;refine' oZ (fun hb10 => ?_) ?_;rotate_left
 ·
  have fb10 := hb10
  try simp only [bl] at fb10
  refine gV hb10 ?_;refine qau (wS rfl rfl hb10) rfl underlying9 rfl ?_;refine gV hb10 ?_;refine oN ?_;exact qa rfl
 refine' oZ (fun hb15 => ?_) ?_;rotate_left
 ·
  have fb15 := hb15
  try simp only [bl] at fb15
  refine gV hb15 ?_;refine oP (wS rfl rfl hb15) rfl call80 rfl (qzu _) ?_;refine oN ?_;exact qa rfl
 refine nT ?_;refine cC rfl (fun h1 => ?_) (fun h1 => ?_)
 ·
  have f1 := h1;try simp only [bl] at f1
  refine sR ?_;refine oV ?_;refine nF ?_;refine ret1 rfl rfl ?_;refine fun _ hw => ⟨?_,hw⟩; rw [qpp (by rcases f1 with (f | f) | f; exact .inl (by omega); exact .inr (.inl (by omega)); exact .inr (.inr f))]
 have f1 := h1;try simp only [bl] at f1
 refine kS ?_;refine oV ?_;refine oN (tC (cS (cB ?_)));refine qu (ι := Nat) [0] (.cons rfl .nil) (fun x => s.size - x) (fun x E0 => (3,.int .i64 (x : Int)) :: E0) (fun x => fun w1 => w1 = w) (fun x => x ≤ s.size ∧ yk s = zg s (s.size - x) x) (0) (sC rfl (sC rfl sN)) (fun _ h => h) (⟨Nat.zero_le _,qpo (by omega) (by omega) f1.2⟩) ?_;rintro i ⟨hle,hF⟩
 try dsimp only
 have hwd := jq s i
 refine cS (sR ?_);iterate 2 refine oV ?_
 refine qau trivial rfl underlying9 rfl ?_;refine oV ?_;refine nT ?_;refine cC rfl (fun h2 => ?_) (fun h2 => ?_)
 ·
  have f2 := h2;try simp only [bl] at f2
  refine cK (tC (cB (sR ?_)));iterate 2 refine oV ?_
  refine oP trivial rfl call81 rfl (qzz _ _ (by omega) (by omega)) ?_;iterate 5 refine oV ?_
  refine nS ?_;refine oV ?_;refine oP trivial rfl call82 rfl (qzl _) ?_;refine oV ?_;refine nU ?_;iterate 2 refine oV ?_
  refine' oY (fun hb33 => ?_) ?_;rotate_left
  ·
   iterate 2 refine gV hb33 ?_
   refine oN ?_;exact qa rfl
  refine' oZ (fun hb37 => ?_) ?_;rotate_left
  ·
   iterate 2 refine gV hb37 ?_
   refine' qca (wS rfl rfl hb37) (wS rfl rfl hb37) rfl rfl rfl rfl rfl rfl rfl rfl (fun hb40 => ?_) ?_;rotate_left
   ·
    iterate 2 refine gV hb40 ?_
    refine oN ?_;exact qa rfl
   refine oN ?_;exact qa rfl
  refine nT ?_;refine cC rfl (fun h3 => ?_) (fun h3 => ?_)
  ·
   have f3 := h3;try simp only [bl] at f3
   refine sR ?_;refine oV ?_;refine oN (tC (cT (tR (qd (tR (qd (tR ?_)))))));refine ret1 rfl rfl ?_;refine fun _ hw => ⟨?_,hw⟩; rw [hF,qpl (by omega) (by omega)]
  have f3 := h3;try simp only [bl] at f3
  refine cK (tC (cR ?_));iterate 2 refine oV ?_
  (refine qf trivial rfl rfl rfl ?_ ?_; (omega))
  refine oV ?_;refine oN (qe ?_)
  have hwi := qb2 s i (by omega); exact qj _ (sC rfl (sC rfl sN)) (fun _ h => h) (by show s.size - (i + (Utf8.decode s i).2) < s.size - i; omega) ⟨by omega,hF.trans (qpm (by omega) (by omega))⟩
 have f2 := h2;try simp only [bl] at f2
 refine qq (qc (qc (qp rfl (tC (sR ?_)))));refine oV ?_;refine nE ?_;refine ret1 rfl rfl ?_;refine fun _ hw => ⟨?_,hw⟩; rw [hF,qpn (by omega)]
theorem zn {I : Hp} {v : Value} {l : List ByteArray} (h : Slc I 1 v (scs l)) {i : Nat} {s : ByteArray} (hs : l[i]? = some s) : I.cell? ⟨slcB v, slcO v + i * 1, none⟩ = some (.string s) :=
 h.cells i _ (by unfold scs; rw [List.getElem?_map,hs]; rfl) 0 _ rfl
theorem jf (l : List ByteArray) : (scs l).length = l.length := by simp [scs]
theorem qe0 {α : Type} {p : α → Bool} {l : List α} {i : Nat} {x : α} (h : l[i]? = some x) : (l.drop i).all p = (p x && (l.drop (i + 1)).all p) := by
 rw [List.drop_eq_getElem_cons (List.getElem?_eq_some_iff.1 h).1,List.all_cons,(List.getElem?_eq_some_iff.1 h).2]
theorem qqe (v : Value) (l : List ByteArray) (m : Int) {I : Hp} (h : Slc I 1 v (scs l)) : Fun prog 118 [v,.int .i64 m] I [] (fun r _ _ => r = .bool (za l && decide (m ≤ l.length) && decide (l.length ≤ 40))) := by
 have hl := jf l
 have hmx := h.most
 rw [hl] at hmx
 unfold maxLen at hmx
 intro w hw
 refine qv _ func118 rfl ntmps118 rfl ?_ hw;refine sR ?_;refine oV ?_;refine nU ?_;refine oV ?_;refine qw trivial rfl underlying25 rfl (h) ?_;refine oV ?_;refine oN (tC (cB ?_));refine qu (ι := Nat) [0,1,7,8] (.cons rfl (.cons rfl (.cons rfl (.cons rfl .nil)))) (fun x => l.length - x) (fun x E0 => (9,.int .i64 (x : Int)) :: E0) (fun x => St w [] I []) (fun x => x ≤ l.length ∧ l.all yk = (l.drop x).all yk) (0) (sC rfl (sC rfl (sC rfl (sC rfl (sC rfl sN))))) (fun _ h => h) (⟨Nat.zero_le _,rfl⟩) ?_;rintro i ⟨hi,hF⟩
 try dsimp only
 refine sR ?_;refine oV ?_;refine oN (tC (cS ?_));refine cC rfl (fun h1 => ?_) (fun h1 => ?_)
 ·
  have f1 := h1;try simp only [bl] at f1
  obtain ⟨s,hs⟩ : ∃ s,l[i]? = some s := ⟨l[i]'(by omega),List.getElem?_eq_getElem (by omega)⟩
  refine cK (tC (cS (cB (sR ?_))));refine vk trivial rfl underlying25 sizeOf9 rfl (h) rfl (by omega) ?_;refine q8 trivial rfl isAgg9 rfl (zn h hs) ?_;refine oV ?_;refine nS ?_;refine oV ?_;refine oQ call119 rfl (qkn _) ?_;refine oV ?_;refine nT ?_;refine cC rfl (fun h2 => ?_) (fun h2 => ?_)
  ·
   have f2 := h2;try simp only [bl] at f2
   refine sR ?_;refine oV ?_;refine oN (tC (cT (qd (tR (tR (qd (tR ?_)))))));refine ret1 rfl rfl ?_;refine qg (congrArg Value.bool ?_)
   unfold za
   rw [hF,qe0 hs,show yk s = false by simpa using h2]; rfl
  have f2 := h2;try simp only [bl] at f2
  refine cK (qe (tC (cR ?_)))
  (refine qf trivial rfl rfl rfl ?_ ?_; (omega))
  refine oV ?_;refine oN ?_;exact qj (i + 1) (sC rfl (sC rfl (sC rfl (sC rfl (sC rfl sN))))) (fun _ h => h) (by show l.length - (i + 1) < l.length - i; omega) ⟨by show i + 1 ≤ l.length; omega,by rw [hF,qe0 hs,show yk s = true by simpa using h2]; rfl⟩
 have f1 := h1;try simp only [bl] at f1
 have hin : i = l.length := by omega
 rw [hin,List.drop_length] at hF
 refine qq (qc (qc (qp rfl (tC (sR ?_)))));refine oV ?_;refine qw trivial rfl underlying25 rfl (h) ?_;iterate 2 refine oV ?_
 refine' oY (fun hb21 => ?_) ?_;rotate_left
 ·
  have fb21 := hb21
  try simp only [bl] at fb21
  refine gV hb21 ?_;refine qw (wS rfl rfl hb21) rfl underlying25 rfl (h) ?_;refine gV hb21 ?_;refine oN ?_;exact qa rfl
 refine oV ?_;refine nE ?_;refine ret1 rfl rfl ?_;refine qg (congrArg Value.bool ?_)
 unfold za
 rw [hF,Bool.eq_iff_iff]
 simp
 omega
theorem qqf (neg : Bool) (va vb : Value) (A B : List Nat) {I : Hp} (ha : Ws I va A) (hb : Ws I vb B) : Fun prog 153 [.agg #[.bool neg,va,vb]] I [] (fun v _ _ => v = .bool (ve neg A B)) := by
 intro w hw
 refine q9 _ func153 rfl ntmps153 rfl ?_ hw;refine sR ?_;refine qo trivial rfl rfl rfl (fun b1 => ?_);refine oV ?_;refine nS ?_;refine oF 0 underlying48 sizeOf4 ?_;refine oL isAgg4 ?_;refine oV ?_;refine' oY (fun hb6 => ?_) ?_;rotate_left
 ·
  have fb6 := hb6
  try simp only [bl] at fb6
  refine gF hb6 1 underlying48 sizeOf46 ?_;refine gL hb6 isAgg46 ?_;refine vj (wS rfl rfl hb6) rfl underlying46 rfl (ha) ?_;refine gV hb6 ?_;refine oN ?_;exact qa rfl
 refine' oY (fun hb12 => ?_) ?_;rotate_left
 ·
  have fb12 := hb12
  try simp only [bl] at fb12
  refine gF hb12 2 underlying48 sizeOf46 ?_;refine gL hb12 isAgg46 ?_;refine vj (wS rfl rfl hb12) rfl underlying46 rfl (hb) ?_;refine gV hb12 ?_;refine oN ?_;exact qa rfl
 refine oV ?_;refine nE ?_;refine ret1 rfl rfl ?_;refine qg (congrArg Value.bool ?_); unfold ve; rw [Bool.eq_iff_iff]; simp
theorem qz0 (neg : Bool) (va vb : Value) (A B : List Nat) {I : Hp} (ha : Ws I va A) (hb : Ws I vb B) (hs : A.length ≤ 2000000) (hs2 : B.length ≤ 2000000) : Fun prog 154 [.agg #[.bool neg,va,vb]] I [] (fun v _ _ => v = .bool (yf neg A B && !neg)) := by
 intro w hw
 refine q9 _ func154 rfl ntmps154 rfl ?_ hw;refine sR ?_;refine qo trivial rfl rfl rfl (fun b1 => ?_);refine oV ?_;refine nS ?_;refine oA isAgg48 sizeOf48 ?_;refine oQ call121 rfl (qn2 neg _ _ _ _ ha hb (by omega) (by omega)) ?_;refine' oY (fun hb5 => ?_) ?_;rotate_left
 ·
  have fb5 := hb5
  try simp only [bl] at fb5
  refine gF hb5 0 underlying48 sizeOf4 ?_;refine gL hb5 isAgg4 ?_;refine gV hb5 ?_;refine oN ?_;exact qa rfl
 refine' oY (fun hb10 => ?_) ?_;rotate_left
 ·
  have fb10 := hb10
  try simp only [bl] at fb10
  refine gF hb10 1 underlying48 sizeOf46 ?_;refine gL hb10 isAgg46 ?_;refine yy (wS rfl rfl hb10) rfl call122 rfl (qhb _ _ ha hs) ?_;refine gV hb10 ?_;refine oN ?_;exact qa rfl
 refine' oY (fun hb16 => ?_) ?_;rotate_left
 ·
  have fb16 := hb16
  try simp only [bl] at fb16
  refine gF hb16 2 underlying48 sizeOf46 ?_;refine gL hb16 isAgg46 ?_;refine yy (wS rfl rfl hb16) rfl call122 rfl (qhb _ _ hb hs2) ?_;refine gV hb16 ?_;refine oN ?_;exact qa rfl
 refine oV ?_;refine nE ?_;refine ret1 rfl rfl ?_;refine qg (congrArg Value.bool ?_); unfold yf; rw [Bool.eq_iff_iff]; simp only [Bool.and_eq_true,decide_eq_true_eq]; constructor
 · rintro ⟨⟨⟨h1,h2⟩,h3⟩,h4⟩; exact ⟨⟨⟨h1,by omega⟩,by omega⟩,h2⟩
 · rintro ⟨⟨⟨h1,h2⟩,h3⟩,h4⟩; exact ⟨⟨⟨h1,h4⟩,by omega⟩,by omega⟩
def _root_.Go.Tw.NodeC.few (k : Nat) (c : NodeC) : Prop := c.n.length ≤ k ∧ c.d.length ≤ k
def qqg (c : NodeC) (v : Value) : Prop := ∃ m : Int,v = .tuple #[.int .i64 m,.bool (vr c).isSome] ∧ ∀ k,vr c = some k → m = k
theorem qe1 {c : NodeC} {m : Int} {b : Bool} (k : Nat) (hm : m = k) (h : vr c = if b = true then some k else none) : qqg c (.tuple #[.int .i64 m,.bool b]) := by
 refine ⟨m,by rw [h]; cases b <;> rfl,fun k' hk => ?_⟩
 rw [h] at hk
 cases b
 · cases hk
 · cases hk; exact hm
theorem qb5 (s : ByteArray) : (s.toList == (ByteArray.mk #[]).toList) = s.toList.isEmpty := by
 rw [show (ByteArray.mk #[]).toList = [] by rw [ByteArray.toList_eq]]
 cases s.toList <;> rfl
theorem qqh {c : NodeC} (h : c.kind = 0) : vr c = if (yk c.name && ve c.neg c.n c.d && c.a == 0 && c.b == 0 && c.e == 0) = true then some 0 else none := by unfold vr; rw [if_pos h]; rfl
theorem qkp {c : NodeC} (h : c.kind = 1) : vr c = if (c.name.toList.isEmpty && (yf c.neg c.n c.d && !c.neg) && c.a == 0 && c.b == 0 && c.e == 0) = true then some 0 else none := by unfold vr; rw [if_neg (by omega),if_pos h]; rfl
theorem qqi {c : NodeC} (h : 2 ≤ c.kind ∧ c.kind ≤ 5) : vr c = if (c.name.toList.isEmpty && ve c.neg c.n c.d && c.e == 0) = true then some 2 else none := by unfold vr; rw [if_neg (by omega),if_neg (by omega),if_pos h]; rfl
theorem qqj {c : NodeC} (h : c.kind = 6) : vr c = if (c.name.toList.isEmpty && ve c.neg c.n c.d && c.b == 0 && c.e == 0) = true then some 1 else none := by unfold vr; rw [if_neg (by omega),if_neg (by omega),if_neg (by omega),if_pos h]; rfl
theorem qqk {c : NodeC} (h : c.kind = 7) : vr c = if (c.name.toList.isEmpty && ve c.neg c.n c.d && c.b == 0 && decide (c.e ≥ -20) && decide (c.e ≤ 20)) = true then some 1 else none := by unfold vr; rw [if_neg (by omega),if_neg (by omega),if_neg (by omega),if_neg (by omega),if_pos h]; rfl
theorem qql {c : NodeC} (h : c.kind < 0 ∨ 7 < c.kind) : vr c = none := by unfold vr; rw [if_neg (by omega),if_neg (by omega),if_neg (by omega),if_neg (by omega),if_neg (by omega)]
theorem qz1 (o : qk) {I : Hp} (ho : o.ok I) (hf : o.c.few 2000000) : Fun prog 139 [.agg o.cells.toArray] I [] (fun v _ _ => qqg o.c v) := by
 have ha := ho.1
 have hb := ho.2
 have hb1 := ha.cells1
 have hb2 := hb.cells1
 obtain ⟨⟨kind,a,b,e,name,neg,n,d⟩,vn,vd⟩ := o
 change Ws I vn n at ha
 change Ws I vd d at hb
 unfold qk.cells
 intro w hw
 refine q9 _ func139 rfl ntmps139 rfl ?_ hw;refine sR ?_;refine qo trivial rfl rfl rfl (fun b1 => ?_);iterate 2 refine oV ?_
 refine nS ?_;refine oF 4 underlying67 sizeOf9 ?_;refine oL isAgg9 ?_;refine oV ?_;refine' oY (fun hb8 => ?_) ?_;rotate_left
 ·
  have fb8 := hb8
  try simp only [bl] at fb8
  refine gF hb8 5 underlying67 sizeOf48 ?_;refine qgq (wS rfl rfl hb8) rfl isAgg48 sizeOf48 rfl (by repeat constructor) (by repeat constructor) ?_;refine yy (wS rfl rfl hb8) rfl call153 rfl (qqf neg vn vd n d ha hb) ?_;refine oN ?_;exact qa rfl
 refine oV ?_;refine nU ?_;refine oF 0 underlying67 sizeOf3 ?_;refine oL isAgg3 ?_;refine oN (tC (cB (sR ?_)));iterate 2 refine oV ?_
 refine nT ?_;refine cC rfl (fun h1 => ?_) (fun h1 => ?_)
 ·
  have f1 := h1;try simp only [bl] at f1
  refine cS ?_;refine jn (by kernel_rfl) (by kernel_rfl) (fun _ h => h.drawn) ?_;refine oF 4 underlying67 sizeOf9 ?_;refine oL isAgg9 ?_;refine oQ call119 rfl (qkn _) ?_;refine' oY (fun hb20 => ?_) ?_;rotate_left
  ·
   have fb20 := hb20
   try simp only [bl] at fb20
   refine gF hb20 5 underlying67 sizeOf48 ?_;refine qgq (wS rfl rfl hb20) rfl isAgg48 sizeOf48 rfl (by repeat constructor) (by repeat constructor) ?_;refine yy (wS rfl rfl hb20) rfl call153 rfl (qqf neg vn vd n d ha hb) ?_;refine oN ?_;exact qa rfl
  refine' oY (fun hb25 => ?_) ?_;rotate_left
  ·
   have fb25 := hb25
   try simp only [bl] at fb25
   refine gF hb25 1 underlying67 sizeOf3 ?_;refine gL hb25 isAgg3 ?_;refine gV hb25 ?_;refine oN ?_;exact qa rfl
  refine' oY (fun hb30 => ?_) ?_;rotate_left
  ·
   have fb30 := hb30
   try simp only [bl] at fb30
   refine gF hb30 2 underlying67 sizeOf3 ?_;refine gL hb30 isAgg3 ?_;refine gV hb30 ?_;refine oN ?_;exact qa rfl
  refine' oY (fun hb35 => ?_) ?_;rotate_left
  ·
   have fb35 := hb35
   try simp only [bl] at fb35
   refine gF hb35 3 underlying67 sizeOf3 ?_;refine gL hb35 isAgg3 ?_;refine gV hb35 ?_;refine oN ?_;exact qa rfl
  iterate 2 refine oV ?_
  refine oN (tC (cT (qd (tR ?_))));refine ret2 rfl rfl rfl ?_;refine qg (qe1 0 rfl ?_); rw [qqh (show kind = 0 by omega)]; try rfl
 have f1 := h1;try simp only [bl] at f1
 refine sR ?_;iterate 2 refine oV ?_
 refine nT ?_;refine cC rfl (fun h2 => ?_) (fun h2 => ?_)
 ·
  have f2 := h2;try simp only [bl] at f2
  refine cS ?_;refine jn (by kernel_rfl) (by kernel_rfl) (fun _ h => h.drawn) ?_;refine oF 4 underlying67 sizeOf9 ?_;refine oL isAgg9 ?_;refine oV ?_;refine' oY (fun hb45 => ?_) ?_;rotate_left
  ·
   have fb45 := hb45
   try simp only [bl] at fb45
   refine gF hb45 5 underlying67 sizeOf48 ?_;refine qgq (wS rfl rfl hb45) rfl isAgg48 sizeOf48 rfl (by repeat constructor) (by repeat constructor) ?_;refine yy (wS rfl rfl hb45) rfl call154 rfl (qz0 neg vn vd n d ha hb hf.1 hf.2) ?_;refine oN ?_;exact qa rfl
  refine' oY (fun hb50 => ?_) ?_;rotate_left
  ·
   have fb50 := hb50
   try simp only [bl] at fb50
   refine gF hb50 1 underlying67 sizeOf3 ?_;refine gL hb50 isAgg3 ?_;refine gV hb50 ?_;refine oN ?_;exact qa rfl
  refine' oY (fun hb55 => ?_) ?_;rotate_left
  ·
   have fb55 := hb55
   try simp only [bl] at fb55
   refine gF hb55 2 underlying67 sizeOf3 ?_;refine gL hb55 isAgg3 ?_;refine gV hb55 ?_;refine oN ?_;exact qa rfl
  refine' oY (fun hb60 => ?_) ?_;rotate_left
  ·
   have fb60 := hb60
   try simp only [bl] at fb60
   refine gF hb60 3 underlying67 sizeOf3 ?_;refine gL hb60 isAgg3 ?_;refine gV hb60 ?_;refine oN ?_;exact qa rfl
  iterate 2 refine oV ?_
  refine oN (tC (cT (qd (tR ?_))));refine ret2 rfl rfl rfl ?_;refine qg (qe1 0 rfl ?_); rw [qkp (show kind = 1 by omega),qb5]; try rfl
 have f2 := h2;try simp only [bl] at f2
 refine jk (ι := Bool) [1,4,14] (.cons rfl (.cons rfl (.cons rfl .nil))) (fun z E0 => (65,.bool z) :: E0) (fun z => St w [] I [.box b1 (.cells [.int .i64 kind,.int .i64 a,.int .i64 b,.int .i64 e,.string name,.bool neg,vn,vd].toArray 67 (0,0))]) (fun z => (z = true ↔ 2 ≤ kind ∧ kind ≤ 5)) ?_ ?_
 ·
  refine sR ?_;iterate 2 refine oV ?_
  refine nT ?_;refine cC rfl (fun h3 => ?_) (fun h3 => ?_)
  ·
   have f3 := h3;try simp only [bl] at f3
   refine cK ?_
   (exact meet (decide (kind = 2)) (sC rfl (sC rfl (sC rfl (sC rfl sN)))) (fun _ h => h) (by simp only [decide_eq_true_eq]; omega))
  have f3 := h3;try simp only [bl] at f3
  refine sR ?_;iterate 2 refine oV ?_
  refine nT ?_;refine cC rfl (fun h4 => ?_) (fun h4 => ?_)
  ·
   have f4 := h4;try simp only [bl] at f4
   refine cK ?_
   (exact meet (decide (kind = 3)) (sC rfl (sC rfl (sC rfl (sC rfl sN)))) (fun _ h => h) (by simp only [decide_eq_true_eq]; omega))
  have f4 := h4;try simp only [bl] at f4
  refine sR ?_;iterate 2 refine oV ?_
  refine nT ?_;refine cC rfl (fun h5 => ?_) (fun h5 => ?_)
  ·
   have f5 := h5;try simp only [bl] at f5
   refine cK ?_
   (exact meet (decide (kind = 4)) (sC rfl (sC rfl (sC rfl (sC rfl sN)))) (fun _ h => h) (by simp only [decide_eq_true_eq]; omega))
  have f5 := h5;try simp only [bl] at f5
  refine cR ?_;iterate 2 refine oV ?_
  refine oN ?_
  (exact meet (decide (kind = 5)) (sC rfl (sC rfl (sC rfl (sC rfl sN)))) (fun _ h => h) (by simp only [decide_eq_true_eq]; omega))
 rintro z hz
 try dsimp only
 refine cC rfl (fun h6 => ?_) (fun h6 => ?_)
 ·
  have f6 := h6;try simp only [bl] at f6
  have hk := hz.1 (by simpa using h6)
  refine cS ?_;refine jn (by kernel_rfl) (by kernel_rfl) (fun _ h => h.drawn) ?_;refine oV ?_;refine' oY (fun hb71 => ?_) ?_;rotate_left
  ·
   have fb71 := hb71
   try simp only [bl] at fb71
   refine gF hb71 3 underlying67 sizeOf3 ?_;refine gL hb71 isAgg3 ?_;refine gV hb71 ?_;refine oN ?_;exact qa rfl
  iterate 2 refine oV ?_
  refine oN (tC (cT (qd (tR ?_))));refine ret2 rfl rfl rfl ?_
  (refine qg (qe1 2 rfl ?_); rw [qqi (show 2 ≤ kind ∧ kind ≤ 5 by omega),qb5]; try rfl)
 have f6 := h6;try simp only [bl] at f6
 have hk : ¬ (2 ≤ kind ∧ kind ≤ 5) := fun h => by simp [hz.2 h] at h6
 refine sR ?_;iterate 2 refine oV ?_
 refine nT ?_;refine cC rfl (fun h7 => ?_) (fun h7 => ?_)
 ·
  have f7 := h7;try simp only [bl] at f7
  refine cS ?_;refine jn (by kernel_rfl) (by kernel_rfl) (fun _ h => h.drawn) ?_;refine oV ?_;refine' oY (fun hb79 => ?_) ?_;rotate_left
  ·
   have fb79 := hb79
   try simp only [bl] at fb79
   refine gF hb79 2 underlying67 sizeOf3 ?_;refine gL hb79 isAgg3 ?_;refine gV hb79 ?_;refine oN ?_;exact qa rfl
  refine' oY (fun hb84 => ?_) ?_;rotate_left
  ·
   have fb84 := hb84
   try simp only [bl] at fb84
   refine gF hb84 3 underlying67 sizeOf3 ?_;refine gL hb84 isAgg3 ?_;refine gV hb84 ?_;refine oN ?_;exact qa rfl
  iterate 2 refine oV ?_
  refine oN (tC (cT (qd (tR ?_))));refine ret2 rfl rfl rfl ?_
  (refine qg (qe1 1 rfl ?_); rw [qqj (show kind = 6 by omega),qb5]; try rfl)
 have f7 := h7;try simp only [bl] at f7
 refine sR ?_;iterate 2 refine oV ?_
 refine nT ?_;refine cC rfl (fun h8 => ?_) (fun h8 => ?_)
 ·
  have f8 := h8;try simp only [bl] at f8
  refine cS ?_;refine jn (by kernel_rfl) (by kernel_rfl) (fun _ h => h.drawn) ?_;refine oV ?_;refine' oY (fun hb92 => ?_) ?_;rotate_left
  ·
   have fb92 := hb92
   try simp only [bl] at fb92
   refine gF hb92 2 underlying67 sizeOf3 ?_;refine gL hb92 isAgg3 ?_;refine gV hb92 ?_;refine oN ?_;exact qa rfl
  refine' oY (fun hb97 => ?_) ?_;rotate_left
  ·
   have fb97 := hb97
   try simp only [bl] at fb97
   refine gF hb97 3 underlying67 sizeOf3 ?_;refine gL hb97 isAgg3 ?_;refine gV hb97 ?_;refine oN ?_;exact qa rfl
  refine' oY (fun hb102 => ?_) ?_;rotate_left
  ·
   have fb102 := hb102
   try simp only [bl] at fb102
   refine gF hb102 3 underlying67 sizeOf3 ?_;refine gL hb102 isAgg3 ?_;refine gV hb102 ?_;refine oN ?_;exact qa rfl
  iterate 2 refine oV ?_
  refine oN (tC (cT (qd (tR ?_))));refine ret2 rfl rfl rfl ?_
  (refine qg (qe1 1 rfl ?_); rw [qqk (show kind = 7 by omega),qb5]; try rfl)
 have f8 := h8;try simp only [bl] at f8
 refine cK (qe (tC (sR ?_)));iterate 2 refine oV ?_
 refine nE ?_;refine ret2 rfl rfl rfl ?_
 (refine qg (qe1 0 rfl ?_); rw [qql (show kind < 0 ∨ 7 < kind by omega)]; try rfl)
def nss (S : List Nat) : List (List Value) := S.map fun (x : Nat) => [Value.int .i64 (x : Int)]
theorem qbp (S : List Nat) : (nss S).length = S.length := by simp [nss]
theorem qhz (S : List Nat) : (nss S).flatten = nvs S := qjp S
theorem qqm (S : List Nat) : ∀ c ∈ nss S,jo c = true := by
 intro c hc
 obtain ⟨x,_,rfl⟩ := List.mem_map.1 hc
 rfl
theorem qh0 (S : List Nat) : ∀ c ∈ nss S,c.length = 1 := by
 intro c hc
 obtain ⟨x,_,rfl⟩ := List.mem_map.1 hc
 rfl
theorem qqn {I : Hp} {v : Value} {l : List Nat} (h : Slc I 1 v (nss l)) {i : Nat} {z : Nat} (hz : l[i]? = some z) : I.cell? ⟨slcB v, slcO v + i * 1, none⟩ = some (.int .i64 (z : Int)) :=
 h.cells i _ (by unfold nss; rw [List.getElem?_map,hz]; rfl) 0 _ rfl
theorem qa6 {I : Hp} {v : Value} {ns : List qk} (h : Slc I 8 v (nds ns)) {i : Nat} {o : qk} (ho : ns[i]? = some o) : ∀ k y, o.cells[k]? = some y → I.cell? ⟨slcB v, slcO v + i * 8 + k, none⟩ = some y :=
 h.cells i _ (by unfold nds; rw [List.getElem?_map,ho]; rfl)
theorem z4 (ns : List qk) : (nds ns).length = ns.length := by simp [nds]
def qqo (c : NodeC) (j : Nat) : Int := if j = 0 then c.a else c.b
theorem qkq {c : NodeC} {fr : Int} {made : List Nat} (hl : made.length ≤ 2) : qai c fr made = true ↔ ∀ (j x : Nat),made[j]? = some x → qqo c j = (x : Int) + fr := by
 match made,hl with
 | [],_ => simp [qai]
 | [x], _ =>
   simp only [qai,decide_eq_true_eq]
   constructor
   · intro h j y hj
     cases j with
     | zero => simp at hj; subst hj; exact h
     | succ j => simp at hj
   · intro h; exact h 0 x rfl
 | [x, y], _ =>
   simp only [qai,Bool.and_eq_true,decide_eq_true_eq]
   constructor
   · rintro ⟨h1, h2⟩ j z hj
     match j with
     | 0 => simp at hj; subst hj; exact h1
     | 1 => simp at hj; subst hj; exact h2
     | j + 2 => simp at hj
   · intro h; exact ⟨h 0 x rfl,h 1 y rfl⟩
 | _ :: _ :: _ :: _,hl => simp at hl
theorem qqp (out : List Nat) {made : List Nat} {j x : Nat} (h : made[j]? = some x) : hOf out (made.take (j + 1)) = max (hOf out (made.take j)) (out.getD x 0) := by
 unfold hOf
 rw [List.take_add_one,h,List.map_append,List.foldl_append]
 rfl
theorem qkr {fr : Int} {l : List NodeC} {i : Nat} {c : NodeC} {st : List Nat × List Nat} (hi : l[i]? = some c) (h : runH fr (l.take i) ([],[]) = some st) (hs : jr fr st c = none) : runH fr l ([],[]) = none := by
 have e : l = l.take i ++ c :: l.drop (i + 1) := by
   have hlt := (List.getElem?_eq_some_iff.1 hi).1
   have h2 := (List.getElem?_eq_some_iff.1 hi).2
   conv => lhs; rw [← List.take_append_drop i l,List.drop_eq_getElem_cons hlt,h2]
 rw [e,qcy,h]
 show (jr fr st c).bind _ = none
 rw [hs]; rfl
theorem qz2 {fr : Int} {l : List NodeC} {i : Nat} {c : NodeC} {st st' : List Nat × List Nat} (hi : l[i]? = some c) (h : runH fr (l.take i) ([],[]) = some st) (hs : jr fr st c = some st') : runH fr (l.take (i + 1)) ([],[]) = some st' := by
 rw [List.take_add_one,hi,qcy,h]
 show (jr fr st c).bind _ = _
 rw [hs]; rfl
theorem qks {l : List NodeC} {b : Nat} (h : runH (b : Int) l ([],[]) = none) : hZ l b = none := by unfold hZ; rw [h]
theorem qz3 {l : List NodeC} {b : Nat} {out S : List Nat} (h : runH (b : Int) l ([],[]) = some (out,S)) : hZ l b = if S.length = 1 then some out else none := by
 unfold hZ
 rw [h]
 match S with
 | [] => rfl
 | [x] => rfl
 | x :: y :: S => rw [if_neg (by simp)]
def hRes (o : Option (List Nat)) (v : Value) (I' : Hp) : Prop := ∃ u,v = .tuple #[u,.bool o.isSome] ∧ ∀ hs,o = some hs → Slc I' 1 u (nss hs)
theorem qdu {o : Option (List Nat)} {u : Value} {I' : Hp} (h : o = none) : hRes o (.tuple #[u,.bool false]) I' := ⟨u,by rw [h]; rfl,fun hs e => by rw [h] at e; cases e⟩
theorem qqq {o : Option (List Nat)} {out : List Nat} {c : Prop} [Decidable c] {b : Bool} {u : Value} {I' : Hp} (h : o = if c then some out else none) (hb : b = decide c) (hs : Slc I' 1 u (nss out)) : hRes o (.tuple #[u,.bool b]) I' := by
 refine ⟨u,?_,fun l e => ?_⟩
 · rw [h,hb]; by_cases hc : c <;> simp [hc]
 · rw [h] at e
   split at e
   · cases e; exact hs
   · cases e
theorem qz4 (va : Value) (ns : List qk) (fr : Nat) {I : Hp} (hsa : Slc I 8 va (nds ns)) (hok : ∀ o ∈ ns, o.ok I) (hf : ∀ o ∈ ns, o.c.few 2000000) (hn : ns.length ≤ 100000) (hfr : fr ≤ 100000) :
   Fun prog 120 [va,.int .i64 (fr : Int)] I [] (fun v I' _ => hRes (hZ (ns.map qk.c) fr) v I') := by
 have hln := z4 ns
 intro w hw
 refine qv _ func120 rfl ntmps120 rfl ?_ hw;refine sR ?_;iterate 2 refine oV ?_
 refine nS ?_;iterate 2 refine oV ?_
 refine nU ?_;refine oV ?_;refine qw trivial rfl underlying27 rfl (hsa) ?_;refine oV ?_;refine oN (tC (cB ?_));refine qu (ι := Nat × List Nat × List Nat × Value × Value × Hp) [1,17,18] (.cons rfl (.cons rfl (.cons rfl .nil))) (fun x => ns.length - x.1) (fun x E0 => (6,x.2.2.2.1) :: (7,x.2.2.2.2.1) :: (19,.int .i64 (x.1 : Int)) :: E0) (fun x => St w [] x.2.2.2.2.2 [.row x.2.2.2.1 3 1 x.2.1.length (nvs x.2.1)]) (fun x => x.1 ≤ ns.length ∧ x.2.1.length = x.1 ∧ runH (fr : Int) ((ns.map qk.c).take x.1) ([],[]) = some (x.2.1,x.2.2.1) ∧ Slc x.2.2.2.2.2 1 x.2.2.2.2.1 (nss x.2.2.1) ∧ (∀ k ∈ x.2.2.1,k < x.1) ∧ (∀ k ∈ x.2.1,k ≤ x.1) ∧ x.2.2.1.length ≤ x.1 ∧ Ext w.heap.size I x.2.2.2.2.2) ((0,[],[],.slice none 0 0,.slice none 0 0,I)) (sC rfl (sC rfl (sC rfl (sC rfl (sC rfl (sC rfl sN)))))) (fun _ h => h.nilRow _ _) (⟨Nat.zero_le _,rfl,rfl,Slc.nil _ _,fun k hk => (by cases hk),fun k hk => (by cases hk),Nat.le_refl _,Ext.refl _ _⟩) ?_;rintro ⟨i,out,S,uo,us,I1⟩ ⟨hi,hol,hrun,hS,hSl,hoh,hSn,hx1⟩
 try dsimp only
 simp only at hi hol hrun hS hSl hoh hSn hx1; have hsl := qbp S
 refine sR ?_;refine oV ?_;refine oN (tC (cS ?_));refine cC rfl (fun h1 => ?_) (fun h1 => ?_)
 ·
  have f1 := h1;try simp only [bl] at f1
  obtain ⟨o,ho⟩ : ∃ o,ns[i]? = some o := ⟨ns[i]'(by omega),List.getElem?_eq_getElem (by omega)⟩
  have hoc : (ns.map qk.c)[i]? = some o.c := by rw [List.getElem?_map,ho]; rfl
  have hom := List.mem_of_getElem? ho
  have hoo := (hok o hom).le hx1.le
  have hw1 : Ws I1 o.vn o.c.n := hoo.1
  have hw2 : Ws I1 o.vd o.c.d := hoo.2
  refine cK (tC (cS (cB (sR ?_))));refine oV ?_;refine vk trivial rfl underlying27 sizeOf67 rfl (hsa.le hx1.le) rfl (by omega) ?_;refine y7 trivial rfl isAgg67 sizeOf67 rfl rfl (qa6 (hsa.le hx1.le) ho) ?_;refine qh trivial rfl zeroValue67 rfl (fun b9 => ?_);refine oV ?_;refine oS sizeOf67 ?_;refine nS ?_;refine oA isAgg67 sizeOf67 ?_;refine qff trivial rfl call139 rfl (qz1 o hoo (hf o hom)) ?_;rintro _ ⟨m,rfl,hm⟩;iterate 5 refine oV ?_
  refine nU ?_;iterate 2 refine oV ?_
  refine' oZ (fun hb31 => ?_) ?_;rotate_left
  ·
   have fb31 := hb31
   try simp only [bl] at fb31
   refine gV hb31 ?_;refine qw (wS rfl rfl hb31) rfl underlying32 rfl (hS) ?_;iterate 2 refine gV hb31 ?_
   refine oN ?_;exact qa rfl
  refine nT ?_;refine cC rfl (fun h2 => ?_) (fun h2 => ?_)
  ·
   have f2 := h2;try simp only [bl] at f2
   have hno : hZ (ns.map qk.c) fr = none := by
     refine qks (qkr hoc hrun ?_)
     unfold jr
     cases hp : vr o.c with
     | none => rfl
     | some k =>
       have := hm k hp
       have h2' := h2
       rw [hp] at h2'
       simp at h2'
       dsimp only
       rw [if_neg (fun hh => by have := hh.1; omega)]
   refine sR ?_;iterate 2 refine oV ?_
   refine oN (tC (cT (tR (qd (tR (tR (qd (tR ?_))))))));refine ret2 rfl rfl rfl ?_;exact leaf hx1 (List.nil_sublist _) (qdu hno)
  have f2 := h2;try simp only [bl] at f2
  obtain ⟨k,hk⟩ := Option.isSome_iff_exists.1 f2.1
  have hmk := hm k hk
  subst hmk
  have hk2 := qkk hk
  have hkl : k ≤ S.length := by have := f2.2; omega
  have hcutA := hS.cut (lo := (((nss S).length : Int) - (k : Int)).toNat) (hi := (nss S).length) (by omega) (Nat.le_refl _)
  rw [List.take_length] at hcutA
  have hmd : (nss S).drop (((nss S).length : Int) - (k : Int)).toNat = nss (S.drop (S.length - k)) := by unfold nss; rw [List.map_drop,List.length_map]; congr 1; omega
  rw [hmd] at hcutA
  have hcutB := hS.cut (lo := 0) (hi := (((nss S).length : Int) - (k : Int)).toNat) (by omega) (by omega)
  have hmt : (nss S).take (((nss S).length : Int) - (k : Int)).toNat = nss (S.take (S.length - k)) := by unfold nss; rw [List.map_take,List.length_map]; congr 1; omega
  rw [List.drop_zero,hmt] at hcutB
  have hmsub : ∀ x ∈ S.drop (S.length - k),x < i := fun x hx => hSl x (List.mem_of_mem_drop hx)
  have hml : (S.drop (S.length - k)).length = k := by rw [List.length_drop]; omega
  have hstep : jr (fr : Int) (out,S) o.c = if qai o.c fr (S.drop (S.length - k)) = true then some (out ++ [hOf out (S.drop (S.length - k)) + 1],S.take (S.length - k) ++ [out.length]) else none := by
    unfold jr
    rw [hk]
    dsimp only
    by_cases hmo : qai o.c fr (S.drop (S.length - k)) = true
    · rw [if_pos ⟨hkl,hmo⟩,if_pos hmo]
    · rw [if_neg (fun hh => hmo hh.2),if_neg hmo]
  have htl : (S.take (S.length - k)).length = S.length - k := by rw [List.length_take]; omega
  have htm : ∀ x ∈ S.take (S.length - k),x < i := fun x hx => hSl x (List.mem_of_mem_take hx)
  generalize S.drop (S.length - k) = made at hcutA hmsub hml hstep
  generalize S.take (S.length - k) = S2 at hcutB hstep htl htm
  refine kS ?_;iterate 2 refine oV ?_
  refine qw trivial rfl underlying32 rfl (hS) ?_;refine oV ?_
  (refine vy trivial rfl rfl rfl ?_ ?_; (omega))
  refine qtx trivial rfl underlying32 sizeOf3 rfl (hS) rfl (by omega) ?_;refine oV ?_;refine nS ?_;iterate 2 refine oV ?_
  refine qw trivial rfl underlying32 rfl (hS) ?_;refine oV ?_
  (refine vy trivial rfl rfl rfl ?_ ?_; (omega))
  refine qmk trivial rfl underlying32 sizeOf3 rfl (hS) rfl (by omega) ?_;refine oV ?_;refine nS ?_;refine oV ?_;refine nU ?_;refine oV ?_;refine qw trivial rfl underlying32 rfl (hcutA) ?_;refine oV ?_;refine oN (tC (cB ?_));refine qu (ι := Nat × Nat) [1,6,7,8,9,17,18,19,49,50] (.cons rfl (.cons rfl (.cons rfl (.cons rfl (.cons rfl (.cons rfl (.cons rfl (.cons rfl (.cons rfl (.cons rfl .nil)))))))))) (fun x => made.length - x.1) (fun x E0 => (13,.int .i64 (x.2 : Int)) :: (51,.int .i64 (x.1 : Int)) :: E0) (fun x => St w [] I1 [.row uo 3 1 out.length (nvs out),.box b9 (.cells o.cells.toArray 67 (0,0))]) (fun x => x.1 ≤ made.length ∧ x.2 = hOf out (made.take x.1) ∧ x.2 ≤ i ∧ ∀ j y,j < x.1 → made[j]? = some y → qqo o.c j = y + (fr : Int)) ((0,0)) (sC rfl (sC rfl (sC rfl (sC rfl (sC rfl (sC rfl (sC rfl (sC rfl (sC rfl (sC rfl (sC rfl (sC rfl sN)))))))))))) (fun _ h => h.sort (by repeat constructor)) (⟨Nat.zero_le _,rfl,Nat.zero_le _,fun j y hj => absurd hj (Nat.not_lt_zero _)⟩) ?_;rintro ⟨j,h⟩ ⟨hj,hh,hhi,hpre⟩
  try dsimp only
  simp only at hj hh hhi hpre; have hml2 := qbp made
  refine sR ?_;refine oV ?_;refine oN (tC (cS ?_));refine cC rfl (fun h3 => ?_) (fun h3 => ?_)
  ·
   have f3 := h3;try simp only [bl] at f3
   obtain ⟨y,hy⟩ : ∃ y,made[j]? = some y := ⟨made[j]'(by omega),List.getElem?_eq_getElem (by omega)⟩
   have hyi := hmsub y (List.mem_of_getElem? hy)
   refine cK (tC (cS (cB (sR ?_))));refine oV ?_;refine vk trivial rfl underlying32 sizeOf3 rfl (hcutA) rfl (by omega) ?_;refine q8 trivial rfl isAgg3 rfl (qqn hcutA hy) ?_;iterate 2 refine oV ?_
   refine oN (tC (cS (cS ?_)))
   rcases (show j = 0 ∨ j = 1 by omega) with rfl | rfl
   ·
    refine cR ?_;refine oF 1 underlying67 sizeOf3 ?_;refine oL isAgg3 ?_;refine oF 2 underlying67 sizeOf3 ?_;refine oL isAgg3 ?_;refine qmf (r := .agg #[.int .i64 o.c.a,.int .i64 o.c.b]) trivial rfl rfl (fun w => by kernel_rfl) ?_;refine oV ?_;refine qqc (r := .int .i64 o.c.a) trivial rfl rfl rfl (fun w => by kernel_rfl) ?_;refine oV ?_;refine nS ?_;iterate 3 refine oV ?_
    (refine qf trivial rfl rfl rfl ?_ ?_; (omega))
    refine oV ?_;refine nT ?_;refine cC rfl (fun h4 => ?_) (fun h4 => ?_)
    ·
     have f4 := h4;try simp only [bl] at f4
     have hno : hZ (ns.map qk.c) fr = none := by
       refine qks (qkr hoc hrun ?_)
       rw [hstep,if_neg]
       intro hmo
       have hw := (qkq (by omega)).1 hmo _ _ hy
       exact f4 hw
     refine sR ?_;iterate 2 refine oV ?_
     refine oN (tC (cT (tR (qd (tR (tR (qd (tR (qd (tR (tR (qd (tR ?_)))))))))))));refine ret2 rfl rfl rfl ?_;exact leaf hx1 (List.nil_sublist _) (qdu hno)
    have f4 := h4;try simp only [bl] at f4
    refine cK (tC (cR ?_));iterate 3 refine oV ?_
    refine yp trivial rfl underlying32 sizeOf3 rfl (by repeat constructor) rfl (by omega) ?_;refine jl trivial rfl isAgg3 (by repeat constructor) rfl (by rw [show ((y : Nat) : Int).toNat * 1 = y by omega]; exact qbm (by omega)) ?_;refine zq trivial rfl rfl rfl ?_;refine oV ?_;refine oN (qe (tC ?_))
    have hy0 := qed (k := i) hoh y
    rw [show max (h : Int) ((out.getD y 0 : Nat) : Int) = ((max h (out.getD y 0) : Nat) : Int) by omega]
    refine cR ?_
    (refine qf trivial rfl rfl rfl ?_ ?_; (omega))
    refine oV ?_;refine oN ?_
    (exact qj (0 + 1, max h (out.getD y 0)) (sC rfl (sC rfl (sC rfl (sC rfl (sC rfl (sC rfl (sC rfl (sC rfl (sC rfl (sC rfl (sC rfl (sC rfl sN)))))))))))) (fun _ h => h.sort (by repeat constructor)) (by show made.length - (0 + 1) < made.length - 0; omega) ⟨by show 0 + 1 ≤ _; omega, by rw [qqp out hy, ← hh], by simp only; omega, fun j' y' hj' hy' => by
       have e : j' = 0 := by simp only at hj'; omega
       subst e
       rw [hy] at hy'
       rw [← Option.some.inj hy']
       exact f4⟩)
   refine cR ?_;refine oF 1 underlying67 sizeOf3 ?_;refine oL isAgg3 ?_;refine oF 2 underlying67 sizeOf3 ?_;refine oL isAgg3 ?_;refine qmf (r := .agg #[.int .i64 o.c.a,.int .i64 o.c.b]) trivial rfl rfl (fun w => by kernel_rfl) ?_;refine oV ?_;refine qqc (r := .int .i64 o.c.b) trivial rfl rfl rfl (fun w => by kernel_rfl) ?_;refine oV ?_;refine nS ?_;iterate 3 refine oV ?_
   (refine qf trivial rfl rfl rfl ?_ ?_; (omega))
   refine oV ?_;refine nT ?_;refine cC rfl (fun h4 => ?_) (fun h4 => ?_)
   ·
    have f4 := h4;try simp only [bl] at f4
    have hno : hZ (ns.map qk.c) fr = none := by
      refine qks (qkr hoc hrun ?_)
      rw [hstep,if_neg]
      intro hmo
      have hw := (qkq (by omega)).1 hmo _ _ hy
      exact f4 hw
    refine sR ?_;iterate 2 refine oV ?_
    refine oN (tC (cT (tR (qd (tR (tR (qd (tR (qd (tR (tR (qd (tR ?_)))))))))))));refine ret2 rfl rfl rfl ?_;exact leaf hx1 (List.nil_sublist _) (qdu hno)
   have f4 := h4;try simp only [bl] at f4
   refine cK (tC (cR ?_));iterate 3 refine oV ?_
   refine yp trivial rfl underlying32 sizeOf3 rfl (by repeat constructor) rfl (by omega) ?_;refine jl trivial rfl isAgg3 (by repeat constructor) rfl (by rw [show ((y : Nat) : Int).toNat * 1 = y by omega]; exact qbm (by omega)) ?_;refine zq trivial rfl rfl rfl ?_;refine oV ?_;refine oN (qe (tC ?_))
   have hy0 := qed (k := i) hoh y
   rw [show max (h : Int) ((out.getD y 0 : Nat) : Int) = ((max h (out.getD y 0) : Nat) : Int) by omega]
   refine cR ?_
   (refine qf trivial rfl rfl rfl ?_ ?_; (omega))
   refine oV ?_;refine oN ?_
   (exact qj (1 + 1, max h (out.getD y 0)) (sC rfl (sC rfl (sC rfl (sC rfl (sC rfl (sC rfl (sC rfl (sC rfl (sC rfl (sC rfl (sC rfl (sC rfl sN)))))))))))) (fun _ h => h.sort (by repeat constructor)) (by show made.length - (1 + 1) < made.length - 1; omega) ⟨by show 1 + 1 ≤ _; omega, by rw [qqp out hy, ← hh], by simp only; omega, fun j' y' hj' hy' => by
      rcases (by simp only at hj'; omega : j' < 1 ∨ j' = 1) with e | e
      · exact hpre j' y' e hy'
      · subst e
        rw [hy] at hy'
        rw [← Option.some.inj hy']
        exact f4⟩)
  have f3 := h3;try simp only [bl] at f3
  refine qq (qc (qc (qp rfl (tC (cS ?_)))))
  have hjm : j = made.length := by omega
  subst hjm
  rw [List.take_length] at hh
  have hmo : qai o.c fr made = true := (qkq (by omega)).2 fun j' y' hy' => hpre j' y' (List.getElem?_eq_some_iff.1 hy').1 hy'
  rw [if_pos hmo,← hh] at hstep
  have hnx := qz2 hoc hrun hstep
  have hs2l := qbp S2
  refine cR ?_;iterate 2 refine oV ?_
  (refine qf trivial rfl rfl rfl ?_ ?_; (omega))
  refine oB underlying32 sizeOf3 zeroValue3 fun b78 => ?_;refine oD underlying32 vp fun v79 => ?_;refine oV ?_;refine nR ?_;refine qaw trivial rfl underlying32 sizeOf3 (fun v80 => ?_);refine oV ?_;refine oE underlying32 vp (hcutB) (qqm _) fun v82 => ?_;refine oV ?_;refine oB underlying32 sizeOf3 zeroValue3 fun b84 => ?_;refine oD underlying32 vp fun v85 => ?_;refine oV ?_;refine oN (qe (tC ?_))
  rw [show ([] : List Value) ++ (nss S2).flatten ++ ([Value.int .i64 (i : Int)] ++ []) = (nss (S2 ++ [i])).flatten by simp [nss]]
  refine qa0 (u := v85) (xss := nss (S2 ++ [i])) (by repeat constructor) (by rw [qbp,hs2l,List.length_append]; simp only [List.length_cons,List.length_nil]; omega) (qh0 _) (by unfold maxLen; omega) (fun I2 hx2 hs2 => ?_);refine cR ?_
  (refine qf trivial rfl rfl rfl ?_ ?_; (omega))
  refine oV ?_;refine oN ?_
  exact qj (i + 1, out ++ [h + 1], S2 ++ [i], v79, v85, I2) (sC rfl (sC rfl (sC rfl (sC rfl (sC rfl (sC rfl sN)))))) (fun _ h => by rw [← qhd, List.length_append]; exact h.sort (by repeat constructor)) (by show ns.length - (i + 1) < ns.length - i; omega) ⟨by show i + 1 ≤ _; omega, by rw [List.length_append, hol]; rfl, by rw [hol] at hnx; exact hnx, hs2, fun k hk => by
    show k < i + 1
    rcases List.mem_append.1 hk with hk | hk
    · have := htm k hk; omega
    · rw [List.mem_singleton.1 hk]; omega,fun k hk => by
    show k ≤ i + 1
    rcases List.mem_append.1 hk with hk | hk
    · have := hoh k hk; omega
    · rw [List.mem_singleton.1 hk]; omega,by rw [List.length_append]; show S2.length + 1 ≤ i + 1; omega,hx1.trans hx2 (Nat.le_refl _)⟩
 have f1 := h1;try simp only [bl] at f1
 refine qq (qc (qc (qp rfl (tC (sR ?_)))));iterate 2 refine oV ?_
 refine qw trivial rfl underlying32 rfl (hS) ?_;iterate 3 refine oV ?_
 refine nE ?_;refine ret2 rfl rfl rfl ?_
 (have hin : i = ns.length := by omega
  subst hin
  rw [List.take_of_length_le (by rw [List.length_map]; exact Nat.le_refl _)] at hrun
  have hz := qz3 hrun
  exact fun w' hw' => qc7 (e := 3) (size := 1) (nn := out.length) (u := uo) (xss := nss out) (B := []) hx1 (qbp _) (qh0 _) (by unfold maxLen; omega) (fun I' hl hs' => qqq hz (by rw [Bool.eq_iff_iff]; simp; omega) hs') w' (by rw [qhz]; exact hw'))
theorem qbq {I : Hp} {v : Value} {ls : List LetC} (h : Slc I 2 v (ls.map LetC.cells)) {i : Nat} {c : LetC} (hc : ls[i]? = some c) : ∀ k y, c.cells[k]? = some y → I.cell? ⟨slcB v, slcO v + i * 2 + k, none⟩ = some y :=
 h.cells i _ (by rw [List.getElem?_map,hc]; rfl)
theorem qz5 {all : List NodeC} {ls : List LetC} {i : Nat} {c : LetC} (h : ls[i]? = some c) (out : List Nat) : tGo all (ls.drop i) out = if yk c.name = true ∧ (out.length : Int) ≤ c.root ∧ c.root < all.length then (hZ ((all.take (c.root + 1).toNat).drop out.length) out.length).bind fun h => tGo all (ls.drop (i + 1)) (out ++ h) else none := by
 rw [List.drop_eq_getElem_cons (List.getElem?_eq_some_iff.1 h).1,(List.getElem?_eq_some_iff.1 h).2]; rfl
theorem qz6 {l : List NodeC} {b : Nat} {h : List Nat} (e : hZ l b = some h) : h.length = l.length ∧ ∀ k ∈ h,k ≤ l.length := by
 obtain ⟨x,_,rfl,rfl⟩ := qp8 e
 rw [x.hs_len,x.nd_len]
 exact ⟨rfl,fun k hk => Nat.le_trans (x.hs_le k hk) x.h_le⟩
def tFin (all : List NodeC) (out : List Nat) : Option (List Nat) := if (∀ k ∈ out,k ≤ 60) ∧ out.length = all.length then some out else none
theorem qz7 (vi vl vo va : Value) (p : qx) (ns : List qk) {I : Hp} (hp : y5 I vi vl vo va p ns) (hf : ∀ o ∈ ns, o.c.few 2000000) :
   Fun prog 85 [.agg #[vi,vl,vo,va]] I [] (fun v I' _ => hRes (tZ p) v I') := by
 have hsi := hp.si
 have hsl := hp.sl
 have hso := hp.so
 have hsa := hp.sa
 have hli := jf p.ins
 have hlo := jf p.outs
 have hll : (p.lets.map LetC.cells).length = p.lets.length := List.length_map _
 have hla := z4 ns
 have hal : p.all.length = ns.length := by rw [← hp.eq,List.length_map]
 have htz : tZ p = if (za p.ins && decide ((1 : Int) ≤ p.ins.length) && decide (p.ins.length ≤ 40)) = true ∧ (za p.outs && decide ((1 : Int) ≤ p.outs.length) && decide (p.outs.length ≤ 40)) = true ∧ p.lets.length ≤ 40 ∧ p.all.length ≤ 400 then (tGo p.all p.lets []).bind (tFin p.all) else none := by
   unfold tZ
   by_cases hc : (za p.ins && decide ((1 : Int) ≤ p.ins.length) && decide (p.ins.length ≤ 40)) = true ∧ (za p.outs && decide ((1 : Int) ≤ p.outs.length) && decide (p.outs.length ≤ 40)) = true ∧ p.lets.length ≤ 40 ∧ p.all.length ≤ 400
   · rw [if_pos hc, if_pos (by
       simp only [Bool.and_eq_true,decide_eq_true_eq] at hc
       obtain ⟨⟨⟨a1,a2⟩,a3⟩,⟨⟨b1,b2⟩,b3⟩,c3,c4⟩ := hc
       exact ⟨a1,by omega,a3,b1,by omega,b3,c3,c4⟩)]; rfl
   · rw [if_neg hc, if_neg (fun hh => hc (by
       simp only [Bool.and_eq_true,decide_eq_true_eq]
       exact ⟨⟨⟨hh.1,by omega⟩,hh.2.2.1⟩,⟨⟨hh.2.2.2.1,by omega⟩,hh.2.2.2.2.2.1⟩,hh.2.2.2.2.2.2⟩))]
 intro w hw
 refine q9 _ func85 rfl ntmps85 rfl ?_ hw;refine sR ?_;refine qo trivial rfl rfl rfl (fun b1 => ?_);iterate 2 refine oV ?_
 refine nU ?_;refine oF 0 underlying29 sizeOf25 ?_;refine oL isAgg25 ?_;refine oQ call118 rfl (qqe _ _ _ hsi) ?_;refine oV ?_;refine' oZ (fun hb15 => ?_) ?_;rotate_left
 ·
  have fb15 := hb15
  try simp only [bl] at fb15
  refine gF hb15 2 underlying29 sizeOf25 ?_;refine gL hb15 isAgg25 ?_;refine yy (wS rfl rfl hb15) rfl call118 rfl (qqe _ _ _ hso) ?_;refine gV hb15 ?_;refine oN ?_;exact qa rfl
 refine' oZ (fun hb21 => ?_) ?_;rotate_left
 ·
  have fb21 := hb21
  try simp only [bl] at fb21
  refine gF hb21 1 underlying29 sizeOf26 ?_;refine gL hb21 isAgg26 ?_;refine qw (wS rfl rfl hb21) rfl underlying26 rfl (hsl) ?_;refine gV hb21 ?_;refine oN ?_;exact qa rfl
 refine' oZ (fun hb27 => ?_) ?_;rotate_left
 ·
  have fb27 := hb27
  try simp only [bl] at fb27
  refine gF hb27 3 underlying29 sizeOf27 ?_;refine gL hb27 isAgg27 ?_;refine qw (wS rfl rfl hb27) rfl underlying27 rfl (hsa) ?_;refine gV hb27 ?_;refine oN ?_;exact qa rfl
 refine nT ?_;refine cC rfl (fun h1 => ?_) (fun h1 => ?_)
 ·
  have f1 := h1;try simp only [bl] at f1
  have hno : tZ p = none := by
    rw [htz,if_neg]
    rintro ⟨c1,c2,c3,c4⟩
    rw [c1,c2] at h1
    simp at h1
    omega
  refine sR ?_;iterate 2 refine oV ?_
  refine nF ?_;refine ret2 rfl rfl rfl ?_;exact qg (qdu hno)
 have f1 := h1;try simp only [bl] at f1
 have hgo : tZ p = (tGo p.all p.lets []).bind (tFin p.all) := by
   rw [htz,if_pos]
   simp only [Bool.or_eq_false_iff,Bool.not_eq_false',decide_eq_false_iff_not] at h1
   exact ⟨h1.1.1.1,h1.1.1.2,by omega,by omega⟩
 have hfew : p.lets.length ≤ 40 ∧ p.all.length ≤ 400 := by
   simp only [Bool.or_eq_false_iff,Bool.not_eq_false',decide_eq_false_iff_not] at h1
   exact ⟨by omega,by omega⟩
 refine kS ?_;refine oV ?_;refine nU ?_;refine oF 1 underlying29 sizeOf26 ?_;refine oL isAgg26 ?_;refine qw trivial rfl underlying26 rfl (hsl) ?_;refine oV ?_;refine oN (tC (cB ?_));refine qu (ι := Nat × List Nat × Value × Hp) [1,34,35] (.cons rfl (.cons rfl (.cons rfl .nil))) (fun x => p.lets.length - x.1) (fun x E0 => (4,x.2.2.1) :: (36,.int .i64 (x.1 : Int)) :: E0) (fun x => St w [] x.2.2.2 [.row x.2.2.1 3 1 x.2.1.length (nvs x.2.1),.box b1 (.cells #[vi,vl,vo,va] 29 (0,0))]) (fun x => x.1 ≤ p.lets.length ∧ tGo p.all p.lets [] = tGo p.all (p.lets.drop x.1) x.2.1 ∧ x.2.1.length ≤ p.all.length ∧ Ext w.heap.size I x.2.2.2 ∧ ∀ k ∈ x.2.1,k ≤ 400) ((0,[],.slice none 0 0,I)) (sC rfl (sC rfl (sC rfl (sC rfl (sC rfl sN))))) (fun _ h => (h.nilRow _ _).sort (by repeat constructor)) (⟨Nat.zero_le _,rfl,Nat.zero_le _,Ext.refl _ _,fun k hk => by cases hk⟩) ?_;rintro ⟨i,out,uo,I1⟩ ⟨hi,hF,hol,hx1,h400⟩
 try dsimp only
 simp only at hi hF hol hx1 h400
 refine sR ?_;refine oV ?_;refine oN (tC (cS ?_));refine cC rfl (fun h2 => ?_) (fun h2 => ?_)
 ·
  have f2 := h2;try simp only [bl] at f2
  obtain ⟨c,hc⟩ : ∃ c,p.lets[i]? = some c := ⟨p.lets[i]'(by omega),List.getElem?_eq_getElem (by omega)⟩
  rw [qz5 hc] at hF
  refine cK (tC (cS (cB (sR ?_))));refine vk trivial rfl underlying26 sizeOf72 rfl (hsl.le hx1.le) rfl (by omega) ?_;refine y7 trivial rfl isAgg72 sizeOf72 rfl rfl (qbq (hsl.le hx1.le) hc) ?_;refine qh trivial rfl zeroValue72 rfl (fun b6 => ?_);refine oS sizeOf72 ?_;refine nU ?_;refine oF 0 underlying72 sizeOf9 ?_;refine oL isAgg9 ?_;refine oQ call119 rfl (qkn _) ?_;refine oV ?_;refine' oZ (fun hb44 => ?_) ?_;rotate_left
  ·
   have fb44 := hb44
   try simp only [bl] at fb44
   refine gF hb44 1 underlying72 sizeOf3 ?_;refine gL hb44 isAgg3 ?_;refine gV hb44 ?_;refine yi (wS rfl rfl hb44) rfl underlying32 rfl (by repeat constructor) ?_;refine gV hb44 ?_;refine oN ?_;exact qa rfl
  refine' oZ (fun hb51 => ?_) ?_;rotate_left
  ·
   have fb51 := hb51
   try simp only [bl] at fb51
   refine gF hb51 1 underlying72 sizeOf3 ?_;refine gL hb51 isAgg3 ?_;refine gF hb51 3 underlying29 sizeOf27 ?_;refine gL hb51 isAgg27 ?_;refine qw (wS rfl rfl hb51) rfl underlying27 rfl (hsa.le hx1.le) ?_;refine gV hb51 ?_;refine oN ?_;exact qa rfl
  refine nT ?_;refine cC rfl (fun h3 => ?_) (fun h3 => ?_)
  ·
   have f3 := h3;try simp only [bl] at f3
   have hno : tZ p = none := by
     rw [hgo,hF,if_neg]
     · rfl
     · rintro ⟨c1, c2, c3⟩
       rw [c1] at h3
       simp at h3
       omega
   refine sR ?_;iterate 2 refine oV ?_
   refine oN (tC (cT (tR (qd (tR (tR (qd (tR ?_))))))));refine ret2 rfl rfl rfl ?_;exact leaf hx1 (List.nil_sublist _) (qdu hno)
  have f3 := h3;try simp only [bl] at f3
  have hg3 : yk c.name = true ∧ (out.length : Int) ≤ c.root ∧ c.root < p.all.length := by
    simp only [Bool.or_eq_false_iff,Bool.not_eq_false',decide_eq_false_iff_not] at h3
    exact ⟨h3.1.1,by omega,by omega⟩
  rw [if_pos hg3] at hF
  have hcut := (hsa.le hx1.le).cut (lo := ((out.length : Nat) : Int).toNat) (hi := (c.root + 1).toNat) (by omega) (by omega)
  have hseg : ((nds ns).take (c.root + 1).toNat).drop ((out.length : Nat) : Int).toNat = nds ((ns.take (c.root + 1).toNat).drop out.length) := by unfold nds; rw [List.map_drop,List.map_take,Int.toNat_natCast]
  rw [hseg] at hcut
  have hsub : ∀ o ∈ (ns.take (c.root + 1).toNat).drop out.length,o ∈ ns := fun o ho => List.mem_of_mem_take (List.mem_of_mem_drop ho)
  have hmap : ((ns.take (c.root + 1).toNat).drop out.length).map qk.c = (p.all.take (c.root + 1).toNat).drop out.length := by rw [List.map_drop,List.map_take,hp.eq]
  have hsl2 : ((ns.take (c.root + 1).toNat).drop out.length).length = (c.root + 1).toNat - out.length := by rw [List.length_drop,List.length_take]; omega
  refine kS ?_;refine oF 3 underlying29 sizeOf27 ?_;refine oL isAgg27 ?_;refine oV ?_;refine yi trivial rfl underlying32 rfl (by repeat constructor) ?_;refine oF 1 underlying72 sizeOf3 ?_;refine oL isAgg3 ?_
  (refine qf trivial rfl rfl rfl ?_ ?_; (omega))
  refine qml trivial rfl underlying27 sizeOf67 rfl (hsa.le hx1.le) rfl rfl (by omega) ?_;refine oV ?_;refine yi trivial rfl underlying32 rfl (by repeat constructor) ?_;refine oI call120 rfl (qz4 _ ((ns.take (c.root + 1).toNat).drop out.length) out.length hcut (fun o ho => (hp.ok o (hsub o ho)).le hx1.le) (fun o ho => hf o (hsub o ho)) (by omega) (by omega)) ?_;rintro _ I2 hx2 ⟨u,rfl,hhs⟩;iterate 5 refine oV ?_
  refine oN (tC (cS (cS ?_)))
  rw [hmap] at hhs ⊢
  refine cR ?_;iterate 2 refine oV ?_
  refine nT ?_;refine cC rfl (fun h4 => ?_) (fun h4 => ?_)
  ·
   have f4 := h4;try simp only [bl] at f4
   have hno : tZ p = none := by
     have hz : hZ ((p.all.take (c.root + 1).toNat).drop out.length) out.length = none := by
       cases hz : hZ ((p.all.take (c.root + 1).toNat).drop out.length) out.length with
       | none => rfl
       | some l => rw [hz] at h4; cases h4
     rw [hgo,hF,hz]; rfl
   refine sR ?_;iterate 2 refine oV ?_
   refine oN (tC (cT (tR (qd (tR (tR (qd (tR ?_))))))));refine ret2 rfl rfl rfl ?_;exact leaf (hx1.trans hx2 (Nat.le_refl _)) (List.nil_sublist _) (qdu hno)
  have f4 := h4;try simp only [bl] at f4
  obtain ⟨hl,hz⟩ : ∃ l,hZ ((p.all.take (c.root + 1).toNat).drop out.length) out.length = some l := Option.isSome_iff_exists.1 (by simpa using h4)
  have hsz := hhs _ hz
  obtain ⟨hzl,hzb⟩ := qz6 hz
  rw [← hmap,List.length_map,hsl2] at hzl hzb
  rw [hz] at hF
  have hnl := qbp hl
  refine cK (tC (cR ?_));iterate 2 refine oV ?_
  refine oE underlying32 vp (hsz) (qqm _) fun v77 => ?_;refine oV ?_;refine oN (qe (tC (cR ?_)))
  (refine qf trivial rfl rfl rfl ?_ ?_; (omega))
  refine oV ?_;refine oN ?_
  exact qj (i + 1, out ++ hl, v77, I2) (sC rfl (sC rfl (sC rfl (sC rfl (sC rfl sN))))) (fun _ h => by rw [qhz, qbp] at h; rw [List.length_append, show nvs (out ++ hl) = nvs out ++ nvs hl by simp [nvs]]; exact h.sort (by repeat constructor)) (by show p.lets.length - (i + 1) < p.lets.length - i; omega) ⟨by show i + 1 ≤ _; omega, hF, by rw [List.length_append]; show out.length + hl.length ≤ _; omega, hx1.trans hx2 (Nat.le_refl _), fun k hk => by
    rcases List.mem_append.1 hk with hk | hk
    · exact h400 k hk
    · have := hzb k hk; omega⟩
 have f2 := h2;try simp only [bl] at f2
 refine qq (qc (qc (qp rfl (tC (cS (cS ?_))))))
 have hin : i = p.lets.length := by omega
 subst hin
 rw [List.drop_length] at hF
 have hfin : tZ p = tFin p.all out := by rw [hgo,hF]; rfl
 refine cR ?_;refine oV ?_;refine yi trivial rfl underlying32 rfl (by repeat constructor) ?_;refine oV ?_;refine oN (tC (cB ?_));refine qu (ι := Nat) [1,4,79,80] (.cons rfl (.cons rfl (.cons rfl (.cons rfl .nil)))) (fun x => out.length - x) (fun x E0 => (81,.int .i64 (x : Int)) :: E0) (fun x => St w [] I1 [.row uo 3 1 out.length (nvs out),.box b1 (.cells #[vi,vl,vo,va] 29 (0,0))]) (fun x => x ≤ out.length ∧ ∀ j k,j < x → out[j]? = some k → k ≤ 60) (0) (sC rfl (sC rfl (sC rfl (sC rfl (sC rfl sN))))) (fun _ h => h) (⟨Nat.zero_le _,fun j k hj => absurd hj (Nat.not_lt_zero _)⟩) ?_;rintro j ⟨hj,hlow⟩
 try dsimp only
 refine sR ?_;refine oV ?_;refine oN (tC (cS ?_));refine cC rfl (fun h5 => ?_) (fun h5 => ?_)
 ·
  have f5 := h5;try simp only [bl] at f5
  obtain ⟨k,hk⟩ : ∃ k,out[j]? = some k := ⟨out[j]'(by omega),List.getElem?_eq_getElem (by omega)⟩
  have hkd : out.getD j 0 = k := by rw [List.getD_eq_getElem?_getD,hk]; rfl
  refine cK (tC (cS (cB (sR ?_))));refine yp trivial rfl underlying32 sizeOf3 rfl (by repeat constructor) rfl (by omega) ?_;refine jl trivial rfl isAgg3 (by repeat constructor) rfl (by rw [show ((j : Nat) : Int).toNat * 1 = j by omega]; exact qbm (by omega)) ?_;refine oV ?_;refine nS ?_;iterate 2 refine oV ?_
  refine nT ?_;refine cC rfl (fun h6 => ?_) (fun h6 => ?_)
  ·
   have f6 := h6;try simp only [bl] at f6
   have hno : tZ p = none := by
     rw [hfin]
     unfold tFin
     rw [if_neg]
     rintro ⟨hh,_⟩
     have := hh k (List.mem_of_getElem? hk)
     omega
   refine sR ?_;iterate 2 refine oV ?_
   refine oN (tC (cT (qd (tR (tR (qd (tR ?_)))))));refine ret2 rfl rfl rfl ?_;exact leaf hx1 (List.nil_sublist _) (qdu hno)
  have f6 := h6;try simp only [bl] at f6
  refine cK (qe (tC (cR ?_)))
  (refine qf trivial rfl rfl rfl ?_ ?_; (omega))
  refine oV ?_;refine oN ?_
  exact qj (j + 1) (sC rfl (sC rfl (sC rfl (sC rfl (sC rfl sN))))) (fun _ h => h.sort (by repeat constructor)) (by show out.length - (j + 1) < out.length - j; omega) ⟨by show j + 1 ≤ _; omega, fun j' k' hj' hk' => by
    have hj2 : j' < j + 1 := hj'
    rcases (by omega : j' < j ∨ j' = j) with e | e
    · exact hlow j' k' e hk'
    · subst e
      rw [hk] at hk'
      rw [← Option.some.inj hk']
      omega⟩
 have f5 := h5;try simp only [bl] at f5
 refine qq (qc (qc (qp rfl (tC (cS ?_)))));refine jn (by kernel_rfl) (by kernel_rfl) (fun _ h => h.drawn) ?_;iterate 2 refine oV ?_
 refine yi trivial rfl underlying32 rfl (by repeat constructor) ?_;refine oF 3 underlying29 sizeOf27 ?_;refine oL isAgg27 ?_;refine qw trivial rfl underlying27 rfl (hsa.le hx1.le) ?_;iterate 3 refine oV ?_
 refine nE ?_;refine ret2 rfl rfl rfl ?_
 (have hjo : j = out.length := by omega
  subst hjo
  have hall : ∀ k ∈ out, k ≤ 60 := fun k hk => by
    obtain ⟨j',hj',rfl⟩ := List.getElem_of_mem hk
    exact hlow j' _ hj' (List.getElem?_eq_getElem hj')
  have hz : tZ p = if out.length = p.all.length then some out else none := by
    rw [hfin]
    unfold tFin
    by_cases he : out.length = p.all.length
    · rw [if_pos ⟨hall,he⟩,if_pos he]
    · rw [if_neg (fun hh => he hh.2),if_neg he]
  exact fun w' hw' => qc7 (e := 3) (size := 1) (nn := out.length) (u := uo) (xss := nss out) hx1 (qbp _) (qh0 _) (by unfold maxLen; omega) (fun I' hl hs' => qqq hz (by rw [Bool.eq_iff_iff]; simp; omega) hs') w' (by rw [qhz]; exact hw'))
theorem qz8 (vi vl vo va : Value) (p : qx) (ns : List qk) {I : Hp} (hp : y5 I vi vl vo va p ns) (hf : ∀ o ∈ ns, o.c.few 2000000) :
   Fun prog 57 [.agg #[vi,vl,vo,va]] I [] (fun v _ _ => v = .bool (tZ p).isSome) := by
 have hsi := hp.si
 have hsl := hp.sl
 have hso := hp.so
 have hsa := hp.sa
 intro w hw
 refine q9 _ func57 rfl ntmps57 rfl ?_ hw;refine sR ?_;refine qo trivial rfl rfl rfl (fun b1 => ?_);refine oV ?_;refine nS ?_;refine oA isAgg29 sizeOf29 ?_;refine oI call85 rfl (qz7 vi vl vo va p ns hp hf) ?_;rintro _ I2 hx2 ⟨u,rfl,hhs⟩;iterate 5 refine oV ?_
 refine nS ?_;iterate 2 refine oV ?_
 refine nE ?_;refine ret1 rfl rfl ?_;exact leaf hx2 (List.nil_sublist _) rfl
def Mx (I : Hp) : Prop := ∃ m,I.cell? ⟨0,0,none⟩ = some (.int .i64 m)
theorem Mx.le {I I' : Hp} (h : Mx I) (hl : I.Le I') : Mx I' := let ⟨m,hm⟩ := h; ⟨m,hl.cell hm⟩
abbrev ltR (vl : Value) (ls : List LetC) : Tw.Item := .row vl 72 2 ls.length (ls.map LetC.cells).flatten
abbrev ndR (va : Value) (ns : List qk) : Tw.Item := .row va 67 8 ns.length (nds ns).flatten
def tkAt (L : List Tok) (i : Nat) : Tok := (L[i]?).getD ⟨0,⟨#[]⟩,0,0⟩
theorem qz9 {L : List Tok} {i : Nat} {t : Tok} (h : L[i]? = some t) : tkAt L i = t := by unfold tkAt; rw [h]; rfl
theorem q0a {L : List Tok} {i : Nat} (h : L.length ≤ i) : tkAt L i = ⟨0,⟨#[]⟩,0,0⟩ := by unfold tkAt; rw [List.getElem?_eq_none h]; rfl
def ndV (c : qk) : Value := .agg c.cells.toArray
theorem qqr {c : qk} (h1 : c.vn.oneCell' = true) (h2 : c.vd.oneCell' = true) : jo c.cells = true := by unfold qk.cells; simp only [jo,h1,h2]; rfl
theorem qqs (ns : List qk) (c : qk) : (nds (ns ++ [c])).flatten = (nds ns).flatten ++ c.cells := by simp [nds]
def qqt (L : List Tok) : Prop := ∀ t ∈ L,t.text.size ≤ 60000
theorem qqt.at_ {L : List Tok} (h : qqt L) (i : Nat) : (tkAt L i).text.size ≤ 60000 := by
 by_cases hi : i < L.length
 · rw [qz9 (List.getElem?_eq_getElem hi)]; exact h _ (List.getElem_mem hi)
 · rw [q0a (by omega)]; exact Nat.zero_le _
def opP : Fr → Int
 | .neg => 3
 | .br => 0
 | .bin k _ => qht k
theorem qkt {f : FuncId} {vs : List Value} {I : Hp} {B : List Tw.Item} {R R' : Value → Hp → List Tw.Item → Prop} (h : Fun prog f vs I B R) (hr : ∀ v I' B', R v I' B' → R' v I' B') : Fun prog f vs I B R' := fun w hw =>
 (h w hw).mono fun v w' ⟨I',B',h1,h2,h3⟩ => ⟨I',B',h1,h2,hr v I' B' h3⟩
abbrev nmR (u : Value) (l : List ByteArray) : Tw.Item := .row u 9 1 l.length (scs l).flatten
theorem qf9 (l : List ByteArray) (s : ByteArray) : (scs (l ++ [s])).flatten = (scs l).flatten ++ [.string s] := by simp [scs]
theorem qku (ls : List LetC) (c : LetC) : ((ls ++ [c]).map LetC.cells).flatten = (ls.map LetC.cells).flatten ++ c.cells := by simp
abbrev N0 : Value := .slice none 0 0
def noP : qx := ⟨[],[],[],[]⟩
theorem y5.nil (I : Hp) : y5 I N0 N0 N0 N0 noP [] := ⟨Slc.nil _ _,Slc.nil _ _,Slc.nil _ _,Slc.nil _ _,fun o ho => (by cases ho),rfl⟩
theorem qkv (l : List ByteArray) : ∀ c ∈ scs l,c.length = 1 := by
 intro c hc
 obtain ⟨x,_,rfl⟩ := List.mem_map.1 hc
 rfl
theorem q0b (l : List qk) : ∀ c ∈ nds l,c.length = 8 := by
 intro c hc
 obtain ⟨x,_,rfl⟩ := List.mem_map.1 hc
 rfl
theorem qqu (l : List LetC) : ∀ c ∈ l.map LetC.cells,c.length = 2 := by
 intro c hc
 obtain ⟨x,_,rfl⟩ := List.mem_map.1 hc
 rfl
def qe2 : List Tok → Option Int × List Tok
 | [] => (none,[])
 | x :: r => if isT x 2 zh then (match r with
     | [] => (none,[])
     | y :: r' => if y.kind = 1 then (match qbo y.text with | some n => (some (-(n : Int)),r') | none => (none,y :: r')) else (none,y :: r'))
   else if x.kind = 1 then (match qbo x.text with | some n => (some (n : Int),r) | none => (none,x :: r)) else (none,x :: r)
theorem Expo.fn {r r1 : List Tok} {e : Option Int} (h : Expo r e r1) : qe2 r = (e,r1) := by
 cases h with
 | neg h1 h2 h3 => simp only [qe2,h1,if_true,h2,h3]
 | neg_end h1 => simp only [qe2,h1,if_true]
 | @neg_bad x y r h1 h2 =>
   simp only [qe2,h1,if_true]
   by_cases hk : y.kind = 1
   · rw [if_pos hk,h2 hk]
   · rw [if_neg hk]
 | pos h1 h2 h3 => simp [qe2,h1,h2,h3]
 | pos_end => rfl
 | @pos_bad y r h1 h2 =>
   simp only [qe2,h1]
   by_cases hk : y.kind = 1
   · rw [if_neg (by decide),if_pos hk,h2 hk]
   · rw [if_neg (by decide),if_neg hk]
theorem q0c (n n' b0 b1 b2 b3 c1 c2 c3 : Nat) (hpos : 1 ≤ n) (hn : n ≤ n') (h1 : 1 < n → c1 = b1) (h2 : 2 < n → c2 = b2) (h3 : 3 < n → c3 = b3)
   (k1 : n = 1 → 1 < n' → c1 / 64 ≠ 2) (k2 : n = 2 → 2 < n' → c2 / 64 ≠ 2) (k3 : n = 3 → 3 < n' → c3 / 64 ≠ 2) : Lib.decodeN n' b0 c1 c2 c3 = Lib.decodeN n b0 b1 b2 b3 := by
 have e1 : (1 < n' ∧ c1 / 64 = 2) ↔ (1 < n ∧ b1 / 64 = 2) := by
   by_cases q : 1 < n
   · rw [h1 q]
     constructor
     · rintro ⟨_,h⟩; exact ⟨q,h⟩
     · rintro ⟨_,h⟩; exact ⟨by omega,h⟩
   · have q1 : n = 1 := by omega
     constructor
     · rintro ⟨p1,p2⟩; exact absurd p2 (k1 q1 p1)
     · rintro ⟨p1,_⟩; omega
 have e2 : ((1 < n' ∧ c1 / 64 = 2) ∧ (2 < n' ∧ c2 / 64 = 2)) ↔ ((1 < n ∧ b1 / 64 = 2) ∧ (2 < n ∧ b2 / 64 = 2)) := by
   by_cases q : 2 < n
   · rw [e1, h2 q]
     constructor
     · rintro ⟨h,_,h'⟩; exact ⟨h,q,h'⟩
     · rintro ⟨h,_,h'⟩; exact ⟨h,by omega,h'⟩
   · constructor
     · rintro ⟨h, p1, p2⟩
       have h' := e1.1 h
       exact absurd p2 (k2 (by omega) p1)
     · rintro ⟨_,p1,_⟩; omega
 have e3 : ((1 < n' ∧ c1 / 64 = 2) ∧ (2 < n' ∧ c2 / 64 = 2) ∧ (3 < n' ∧ c3 / 64 = 2)) ↔ ((1 < n ∧ b1 / 64 = 2) ∧ (2 < n ∧ b2 / 64 = 2) ∧ (3 < n ∧ b3 / 64 = 2)) := by
   constructor
   · rintro ⟨x1, x2, x3⟩
     have y := e2.1 ⟨x1,x2⟩
     by_cases q : 3 < n
     · exact ⟨y.1,y.2,q,by rw [← h3 q]; exact x3.2⟩
     · exact absurd x3.2 (k3 (by omega) x3.1)
   · rintro ⟨x1, x2, x3⟩
     have y := e2.2 ⟨x1,x2⟩
     exact ⟨y.1,y.2,by omega,by rw [h3 x3.1]; exact x3.2⟩
 unfold Lib.decodeN
 by_cases g0 : b0 < 128
 · rw [if_pos g0,if_pos g0]
 · rw [if_neg g0, if_neg g0]
   by_cases g1 : b0 / 32 = 6 ∧ (1 < n ∧ b1 / 64 = 2)
   · rw [if_pos g1,if_pos ⟨g1.1,e1.2 g1.2⟩,h1 g1.2.1]
   · rw [if_neg g1, if_neg (fun h => g1 ⟨h.1, e1.1 h.2⟩)]
     by_cases g2 : b0 / 16 = 14 ∧ (1 < n ∧ b1 / 64 = 2) ∧ (2 < n ∧ b2 / 64 = 2)
     · rw [if_pos g2,if_pos ⟨g2.1,e2.2 g2.2⟩,h1 g2.2.1.1,h2 g2.2.2.1]
     · rw [if_neg g2, if_neg (fun h => g2 ⟨h.1, e2.1 h.2⟩)]
       by_cases g3 : b0 / 8 = 30 ∧ (1 < n ∧ b1 / 64 = 2) ∧ (2 < n ∧ b2 / 64 = 2) ∧ (3 < n ∧ b3 / 64 = 2)
       · rw [if_pos g3,if_pos ⟨g3.1,e3.2 g3.2⟩,h1 g3.2.1.1,h2 g3.2.2.1.1,h3 g3.2.2.2.1]
       · rw [if_neg g3,if_neg (fun h => g3 ⟨h.1,e3.1 h.2⟩)]
def Bl (x : ByteArray) : Prop := x.size = 0 ∨ (x.get! 0).toNat = 10 ∨ (x.get! 0).toNat = 32
theorem qqv (s x : ByteArray) : (s ++ x).get! s.size = x.get! 0 := qyo s x 0
theorem qh1 {s x : ByteArray} (hx : Bl x) {i : Nat} (hi : i < s.size) : Utf8.decode (s ++ x) i = Utf8.decode s i := by
 have hsz : (s ++ x).size = s.size + x.size := ByteArray.size_append
 have hm := qqv s x
 have hstop : s.size < (s ++ x).size → ((s ++ x).get! s.size).toNat / 64 ≠ 2 := fun h => by
   rw [hm]
   rcases hx with h0 | h0 | h0 <;> omega
 rw [Lib.decode_at,Lib.decode_at,qf2 s x i hi]
 refine q0c _ _ _ _ _ _ _ _ _ (by omega) (by omega) (fun h => by rw [qf2 s x _ (by omega)]) (fun h => by rw [qf2 s x _ (by omega)]) (fun h => by rw [qf2 s x _ (by omega)]) (fun h h' => ?_) (fun h h' => ?_) (fun h h' => ?_)
 · rw [show i + 1 = s.size by omega]; exact hstop (by omega)
 · rw [show i + 2 = s.size by omega]; exact hstop (by omega)
 · rw [show i + 3 = s.size by omega]; exact hstop (by omega)
theorem qga {s x : ByteArray} (hx : Bl x) {i : Nat} (hi : i < s.size) : kAt (s ++ x) i = kAt s i := by unfold kAt; rw [qh1 hx hi]
theorem qkw {s : ByteArray} {i : Nat} (h : (s.get! i).toNat < 128) : kAt s i = yw (s.get! i).toNat := by unfold kAt; rw [Go.Tw.decode_ascii h]
theorem qqw {s x : ByteArray} (hx : Bl x) (h : s.size < (s ++ x).size) : kAt (s ++ x) s.size = 3 ∧ ((s ++ x).get! s.size).toNat ≠ 124 := by
 have hsz : (s ++ x).size = s.size + x.size := ByteArray.size_append
 have hm := qqv s x
 rcases hx with h0 | h0 | h0
 · omega
 · rw [qkw (by rw [hm]; omega),hm,h0]; exact ⟨by decide,by decide⟩
 · rw [qkw (by rw [hm]; omega),hm,h0]; exact ⟨by decide,by decide⟩
theorem qgb {p : Int → Bool} {s x : ByteArray} (hx : Bl x) (hp : p 3 = false) : ∀ (f i : Nat), s.size ≤ i + f → i ≤ s.size → vf p (s ++ x) i = vf p s i
 | 0, i, h, hi => by
   have e : i = s.size := by omega
   subst e
   rw [qf3 (s := s) (Nat.le_refl _)]
   rcases Nat.lt_or_ge s.size (s ++ x).size with h1 | h1
   · exact qdl h1 (by rw [(qqw hx h1).1]; exact hp)
   · rw [qf3 h1]
     have hsz : (s ++ x).size = s.size + x.size := ByteArray.size_append
     omega
 | f + 1, i, h, hi => by
   rcases Nat.lt_or_ge i s.size with h1 | h1
   · have hsz : (s ++ x).size = s.size + x.size := ByteArray.size_append
     have hw := jq s i
     have hin := qb2 s i h1
     cases hk : p (kAt s i) with
     | false => rw [qdl h1 hk,qdl (by omega) (by rw [qga hx h1]; exact hk)]
     | true =>
       rw [qcw h1 hk,qcw (by omega) (by rw [qga hx h1]; exact hk),qh1 hx h1]
       exact qgb hx hp f _ (by omega) hin
   · exact qgb hx hp 0 i (by omega) hi
theorem qkx {s x : ByteArray} {i j : Nat} (hj : j ≤ s.size) : (s ++ x).extract i j = s.extract i j := by
 rw [ByteArray.extract_append]
 have : x.extract (i - s.size) (j - s.size) = ByteArray.empty := ByteArray.extract_eq_empty_iff.2 (by omega)
 rw [this,ByteArray.append_empty]
theorem q0d {s x : ByteArray} (hx : Bl x) {i : Nat} (hi : i ≤ s.size) : ja (s ++ x) i = ja s i := by
 have hr := qgb (p := vh) hx rfl s.size i (by omega) hi
 have hle := qes vh s i hi
 have hsz : (s ++ x).size = s.size + x.size := ByteArray.size_append
 unfold ja
 rw [hr]
 rcases Nat.lt_or_ge (vf vh s i) s.size with h1 | h1
 · rw [qf2 s x _ h1, qgb (p := vh) hx rfl s.size (vf vh s i + 1) (by omega) (by omega)]
   by_cases h2 : vf vh s i < s.size ∧ (s.get! (vf vh s i)).toNat = 124 ∧ vf vh s i + 1 < vf vh s (vf vh s i + 1)
   · rw [if_pos h2,if_pos ⟨by omega,h2.2⟩]
   · rw [if_neg h2,if_neg (fun h => h2 ⟨h1,h.2⟩)]
 · rw [if_neg (c := vf vh s i < s.size ∧ _) (by omega)]
   have e : vf vh s i = s.size := by omega
   rw [e,if_neg]
   rintro ⟨h2,h3,_⟩;exact (qqw hx h2).2 h3
theorem qky {s x : ByteArray} (hx : Bl x) {i : Nat} (hi : i < s.size) : tokZ (s ++ x) i = tokZ s i := by
 have hw := qes qah s i (by omega)
 have hn := (qpu s i (by omega)).2
 have hin := qb2 s i hi
 unfold tokZ
 rw [qga hx hi,qgb (p := qah) hx rfl s.size i (by omega) (by omega),q0d hx (by omega),qh1 hx hi,qkx hw,qkx hn,qkx hin]
theorem _root_.Go.Tw.Hops.head {s : ByteArray} {i b : Nat} (h : Hops s i b) : i = b ∨ (i < s.size ∧ Hops s (i + (Utf8.decode s i).2) b) := by
 induction h with
 | refl => exact .inl rfl
 | @step j _ hj ih =>
   rcases ih with rfl | ⟨h1,h2⟩
   · exact .inr ⟨hj,.refl⟩
   · exact .inr ⟨h1,h2.step hj⟩
theorem _root_.Go.Tw.Hops.mid {s : ByteArray} {i a b : Nat} (ha : Hops s i a) (hb : Hops s i b) : a ≤ b → Hops s a b := by
 induction ha with
 | refl => intro _; exact hb
 | @step j _ hj ih =>
   intro h
   have hw := jq s j
   rcases (ih (by omega)).head with h1 | h1
   · omega
   · exact h1.2
theorem qkz {s : ByteArray} {B i : Nat} (hB : B ≤ s.size) (hi : i < B) (h : Hops s i B) : Utf8.decode (s.extract 0 B) i = Utf8.decode s i ∧ Hops s (i + (Utf8.decode s i).2) B ∧ i + (Utf8.decode s i).2 ≤ B := by
 rcases h.head with h1 | ⟨h1,h2⟩
 · omega
 · have hge := h2.ge
   have e := qpv s 0 B i hB (by omega) (by rw [Nat.zero_add]; exact hge)
   rw [Nat.zero_add] at e
   exact ⟨e,h2,hge⟩
theorem qgc {s : ByteArray} {B i : Nat} (hB : B ≤ s.size) (hi : i < B) (h : Hops s i B) : kAt (s.extract 0 B) i = kAt s i := by unfold kAt; rw [(qkz hB hi h).1]
theorem qe3 {s : ByteArray} {B : Nat} (hB : B ≤ s.size) : (s.extract 0 B).size = B := by rw [ByteArray.size_extract]; omega
theorem qgd (p : Int → Bool) {s : ByteArray} {B : Nat} (hB : B ≤ s.size) : ∀ (f i : Nat), B ≤ i + f → i ≤ B → Hops s i B → vf p (s.extract 0 B) i = min (vf p s i) B
 | 0, i, h, hi, _ => by
   have e : i = B := by omega
   subst e
   have := qhn p s i hB
   rw [qf3 (by rw [qe3 hB]; omega),qe3 hB]
   omega
 | f + 1, i, h, hi, hh => by
   rcases Nat.lt_or_ge i B with h1 | h1
   · obtain ⟨e1, e2, e3⟩ := qkz hB h1 hh
     have hw := jq s i
     cases hk : p (kAt s i) with
     | false =>
       rw [qdl (s := s) (by omega) hk,qdl (by rw [qe3 hB]; exact h1) (by rw [qgc hB h1 hh]; exact hk)]
       omega
     | true =>
       rw [qcw (s := s) (by omega) hk,qcw (by rw [qe3 hB]; exact h1) (by rw [qgc hB h1 hh]; exact hk),e1]
       exact qgd p hB f _ (by omega) e3 e2
   · exact qgd p hB 0 i (by omega) hi hh
theorem qk0 {s : ByteArray} {B i j : Nat} (hj : j ≤ B) : (s.extract 0 B).extract i j = s.extract i j := by
 rw [ByteArray.extract_extract,Nat.zero_add,Nat.zero_add,Nat.min_eq_left hj]
theorem qqx {s : ByteArray} {B i : Nat} (hB : B ≤ s.size) (hi : i < B) : (s.extract 0 B).get! i = s.get! i := by
 have := qf5 s 0 B i hB (by omega)
 rw [Nat.zero_add] at this
 exact this
theorem q0e {s : ByteArray} {B i : Nat} (hB : B ≤ s.size) (hi : i ≤ B) (h : Hops s i B) (hn : ja s i ≤ B) : ja (s.extract 0 B) i = ja s i := by
 have hr1 := qgd vh hB B i (by omega) hi h
 have hs1 := qdm vh s s.size i (by omega) (by omega)
 have hb := qes vh s i (by omega)
 have hsz := qe3 hB
 have hr : vf vh s i ≤ ja s i := by
   unfold ja
   split
   · rename_i h'; omega
   · exact Nat.le_refl _
 have e1 : vf vh (s.extract 0 B) i = vf vh s i := by rw [hr1]; omega
 have e2 : vf vh s i < B → (s.get! (vf vh s i)).toNat = 124 → vf vh (s.extract 0 B) (vf vh s i + 1) = min (vf vh s (vf vh s i + 1)) B := fun hlt h124 => by
   have hst := hs1.step (show vf vh s i < s.size by omega)
   rw [Go.Tw.decode_ascii (s := s) (i := vf vh s i) (by omega)] at hst
   exact qgd vh hB B _ (by omega) (by show vf vh s i + 1 ≤ B; omega) (hst.mid h (by show vf vh s i + 1 ≤ B; omega))
 unfold ja at hn ⊢
 rw [e1,hsz]
 by_cases h2 : vf vh s i < s.size ∧ (s.get! (vf vh s i)).toNat = 124 ∧ vf vh s i + 1 < vf vh s (vf vh s i + 1)
 · rw [if_pos h2] at hn ⊢
   have hlt : vf vh s i < B := by omega
   have e3 := e2 hlt h2.2.1
   rw [qqx hB hlt,e3,if_pos ⟨hlt,h2.2.1,by omega⟩]
   omega
 · rw [if_neg h2]
   by_cases h3 : vf vh s i < B ∧ ((s.extract 0 B).get! (vf vh s i)).toNat = 124 ∧ vf vh s i + 1 < vf vh (s.extract 0 B) (vf vh s i + 1)
   · exfalso
     obtain ⟨h4,h5,h6⟩ := h3
     rw [qqx hB h4] at h5
     rw [e2 h4 h5] at h6
     exact h2 ⟨by omega,h5,by omega⟩
   · rw [if_neg h3]
theorem q0f {s : ByteArray} {B i : Nat} (hB : B ≤ s.size) (hi : i < B) (h : Hops s i B) (he : (tokZ s i).err = 0) (hst : (tokZ s i).stop ≤ B) : tokZ (s.extract 0 B) i = tokZ s i := by
 obtain ⟨e1,e2,e3⟩ := qkz hB hi h
 have ek := qgc hB hi h
 unfold tokZ at he hst ⊢
 rw [ek,e1]
 by_cases h1 : kAt s i = 1
 · rw [if_pos h1] at he hst
   have hle : vf qah s i ≤ B := by
     split at hst <;> exact hst
   have hr := qgd qah hB B i (by omega) (by omega) h
   rw [Nat.min_eq_left hle] at hr
   rw [if_pos h1,if_pos h1,hr,qk0 hle]
 · rw [if_neg h1] at he hst
   rw [if_neg h1,if_neg h1]
   by_cases h2 : kAt s i = 2
   · rw [if_pos h2] at he hst
     have hle : ja s i ≤ B := by
       split at hst
       · exact hst
       · split at hst <;> exact hst
     rw [if_pos h2,if_pos h2,q0e hB (by omega) h hle,qk0 hle]
   · rw [if_neg h2,if_neg h2,qk0 e3]
def qc0 (s : ByteArray) (i : Nat) : Tok := ⟨(tokZ s i).kind,(tokZ s i).text,(vz s i).1,(vz s i).2⟩
inductive ym (s : ByteArray) : Nat → Nat → List Tok → Prop
 | refl (i : Nat) : ym s i i []
 | blank {i j : Nat} {ts : List Tok} : i < s.size → kAt s i = 3 → ym s (i + 1) j ts → ym s i j ts
 | tok {i j : Nat} {ts : List Tok} : i < s.size → kAt s i ≠ 3 → (tokZ s i).err = 0 → ym s (tokZ s i).stop j ts → ym s i j (qc0 s i :: ts)
theorem ym.trans {s : ByteArray} {i j k : Nat} {ts us : List Tok} (h : ym s i j ts) (h2 : ym s j k us) : ym s i k (ts ++ us) := by
 induction h with
 | refl => exact h2
 | blank a b _ ih => exact .blank a b (ih h2)
 | tok a b c _ ih => exact .tok a b c (ih h2)
theorem ym.hops {s : ByteArray} {i j : Nat} {ts : List Tok} (h : ym s i j ts) : Hops s i j := by
 induction h with
 | refl => exact .refl
 | blank a b _ ih =>
   have := (Hops.refl (s := s)).step a
   rw [qj8 b] at this
   exact this.trans ih
 | tok a b c _ ih => exact (qka a c).trans ih
theorem ym.few {s : ByteArray} {i j : Nat} {ts : List Tok} (h : ym s i j ts) : i + ts.length ≤ j := by
 induction h with
 | refl => simp
 | blank a b _ ih => omega
 | tok a b c _ ih => have := qf4 a c; simp only [List.length_cons]; omega
theorem ym.lex {s : ByteArray} {i j : Nat} {ts : List Tok} (h : ym s i j ts) : ∀ out : List Tok,out.length + ts.length ≤ 4000 → qdn s i out = qdn s j (out ++ ts) := by
 induction h with
 | refl => intro out _; rw [List.append_nil]
 | blank a b _ ih => intro out hl; rw [qj9 a,if_pos b]; exact ih out hl
 | tok a b c _ ih =>
   intro out hl
   simp only [List.length_cons] at hl
   rw [qj9 a,if_neg b,if_neg (by omega),if_neg (not_not_intro c),ih _ (by simp; omega),List.append_assoc]
   rfl
theorem ym.all (s : ByteArray) : ∀ (f i : Nat), s.size ≤ i + f → i ≤ s.size → ∃ j ts, ym s i j ts ∧ (j = s.size ∨ (j < s.size ∧ kAt s j ≠ 3 ∧ (tokZ s j).err ≠ 0))
 | 0,i,h,hi => ⟨i,[],.refl i,.inl (by omega)⟩
 | f + 1, i, h, hi => by
   rcases Nat.lt_or_ge i s.size with h1 | h1
   · by_cases h3 : kAt s i = 3
     · obtain ⟨j, ts, a, b⟩ := ym.all s f (i + 1) (by omega) (by omega)
       exact ⟨j,ts,.blank h1 h3 a,b⟩
     · by_cases h4 : (tokZ s i).err = 0
       · have hst := qf4 h1 h4
         obtain ⟨j,ts,a,b⟩ := ym.all s f (tokZ s i).stop (by omega) hst.2
         exact ⟨j,_,.tok h1 h3 h4 a,b⟩
       · exact ⟨i,[],.refl i,.inr ⟨h1,h3,h4⟩⟩
   · exact ⟨i,[],.refl i,.inl (by omega)⟩
theorem ym.bad {s : ByteArray} {ts : List Tok} {j : Nat} (hs : s.size ≤ 4000) (h : ym s 0 j ts) (h1 : j < s.size) (h2 : kAt s j ≠ 3) (h3 : (tokZ s j).err ≠ 0) : lexZ s = ⟨[],(vz s j).1,(vz s j).2,(tokZ s j).err⟩ := by
 have hf := h.few
 rw [qyt (by omega),h.lex [] (by simp; omega),qj9 h1,if_neg h2,if_neg (by simp; omega),if_pos h3]
theorem q0g {s x : ByteArray} (hx : Bl x) {i : Nat} (h : Hops s 0 i) : Hops (s ++ x) 0 i ∧ vz (s ++ x) i = vz s i := by
 induction h with
 | refl => exact ⟨.refl,by rw [show ((0 : Nat) : Int) = 0 from rfl,qhl,qhl]⟩
 | @step j h hj ih =>
   have hsz : (s ++ x).size = s.size + x.size := ByteArray.size_append
   have hd := qh1 hx hj
   have h1 := ih.1.step (show j < (s ++ x).size by omega)
   have h2 := qhp ih.1 (show j < (s ++ x).size by omega)
   rw [hd] at h1 h2
   exact ⟨h1,by rw [h2,qhp h hj,ih.2]⟩
theorem q0h {s x : ByteArray} (hx : Bl x) {i : Nat} (hi : i < s.size) (h : Hops s 0 i) : qc0 (s ++ x) i = qc0 s i := by unfold qc0; rw [qky hx hi,(q0g hx h).2]
theorem ym.bl {s x : ByteArray} (hx : Bl x) {i j : Nat} {ts : List Tok} (h : ym s i j ts) : Hops s 0 i → ym (s ++ x) i j ts := by
 have hsz : (s ++ x).size = s.size + x.size := ByteArray.size_append
 induction h with
 | refl => intro _; exact .refl _
 | blank a b _ ih =>
   intro h0
   have h1 := h0.step a
   rw [qj8 b] at h1
   exact .blank (by omega) (by rw [qga hx a]; exact b) (ih h1)
 | tok a b c _ ih =>
   intro h0
   have h1 := h0.trans (qka a c)
   rw [← q0h hx a h0]
   exact .tok (by omega) (by rw [qga hx a]; exact b) (by rw [qky hx a]; exact c) (by rw [qky hx a]; exact ih h1)
theorem q0i {s : ByteArray} {B i : Nat} (hB : B ≤ s.size) (h : Hops s 0 i) (hi : i ≤ B) : vz (s.extract 0 B) i = vz s i := by
 have hw := jq (s.extract 0 B) i
 obtain ⟨h1,hr⟩ := qyw (Hops.refl (s := s) (a := 0)) hB h hi
 rw [show ((0 : Nat) : Int) = 0 from rfl,qhl] at hr
 have e := hr.here (at_ := (i : Int)) (by omega) (.inl (by rw [Nat.sub_zero]; omega))
 rw [e]
 refine Prod.ext (by simp only; omega) ?_
 simp only
 split <;> omega
theorem ym.ge {s : ByteArray} {i j : Nat} {ts : List Tok} (h : ym s i j ts) : i ≤ j := h.hops.ge
theorem ym.cut {s : ByteArray} {B i j : Nat} {ts : List Tok} (hB : B ≤ s.size) (h : ym s i j ts) : Hops s 0 i → Hops s j B → ym (s.extract 0 B) i j ts := by
 have hsz := qe3 hB
 induction h with
 | refl => intro _ _; exact .refl _
 | @blank i j ts a b c ih =>
   intro h0 hj
   have h1 := (Hops.refl (s := s)).step a
   rw [qj8 b] at h1
   have hle := (c.hops.trans hj).ge
   exact .blank (by omega) (by rw [qgc hB (by omega) (h1.trans (c.hops.trans hj))]; exact b) (ih (h0.trans h1) hj)
 | @tok i j ts a b c d ih =>
   intro h0 hj
   have h1 := qka a c
   have hst := qf4 a c
   have hle := (d.hops.trans hj).ge
   have hh := h1.trans (d.hops.trans hj)
   have ht := q0f hB (by omega) hh c hle
   have e : qc0 (s.extract 0 B) i = qc0 s i := by unfold qc0; rw [ht,q0i hB h0 (by omega)]
   rw [← e]
   exact .tok (by omega) (by rw [qgc hB (by omega) hh]; exact b) (by rw [ht]; exact c) (by rw [ht]; exact ih (h0.trans h1) hj)
theorem ym.split {s : ByteArray} {i j : Nat} {ts : List Tok} (h : ym s i j ts) : ∀ n (hn : n < ts.length),∃ k,ym s i k (ts.take n) ∧ k < s.size ∧ kAt s k ≠ 3 ∧ (tokZ s k).err = 0 ∧ ts[n] = qc0 s k ∧ ym s (tokZ s k).stop j (ts.drop (n + 1)) := by
 induction h with
 | refl => intro n hn; simp at hn
 | blank a b _ ih =>
   intro n hn
   obtain ⟨k,h1,h2⟩ := ih n hn
   exact ⟨k,.blank a b h1,h2⟩
 | @tok i j ts a b c d ih =>
   intro n hn
   cases n with
   | zero => exact ⟨i,.refl i,a,b,c,rfl,d⟩
   | succ n =>
     obtain ⟨k,h1,h2,h3,h4,h5,h6⟩ := ih n (by simpa using hn)
     exact ⟨k,.tok a b c h1,h2,h3,h4,by simpa using h5,h6⟩
inductive qdv : List Tok → List Tok → Prop
 | nil : qdv [] []
 | cons {t u : Tok} {ts us : List Tok} : (t.kind = u.kind ∧ t.text = u.text) → qdv ts us → qdv (t :: ts) (u :: us)
theorem qdv.len {ts us : List Tok} (h : qdv ts us) : ts.length = us.length := by
 induction h with
 | nil => rfl
 | cons _ _ ih => simp [ih]
theorem qdv.get {ts us : List Tok} (h : qdv ts us) : ∀ i (h1 : i < ts.length) (h2 : i < us.length),(ts[i]).kind = (us[i]).kind ∧ (ts[i]).text = (us[i]).text := by
 induction h with
 | nil => intro i h1; simp at h1
 | cons a _ ih =>
   intro i h1 h2
   cases i with
   | zero => exact a
   | succ i => exact ih i (by simpa using h1) (by simpa using h2)
structure Plus (u : ByteArray) (n : Nat) : Prop where
 le : n ≤ u.size
 few : u.size ≤ 60000
 get : ∀ i,i < n → (u.get! i).toNat = 43
theorem Plus.kAt {u : ByteArray} {n i : Nat} (h : Plus u n) (hi : i < n) : kAt u i = 4 := by
 rw [qkw (by rw [h.get i hi]; omega),h.get i hi]; decide
theorem Plus.dec {u : ByteArray} {n i : Nat} (h : Plus u n) (hi : i < n) : Utf8.decode u i = (43,1) := by
 rw [Go.Tw.decode_ascii (by rw [h.get i hi]; omega),h.get i hi]
theorem Plus.tok {u : ByteArray} {n i : Nat} (h : Plus u n) (hi : i < n) : (tokZ u i).err = 0 ∧ (tokZ u i).stop = i + 1 := by
 unfold tokZ
 rw [h.kAt hi,h.dec hi]
 exact ⟨rfl,rfl⟩
theorem Plus.place {u : ByteArray} {n : Nat} (h : Plus u n) : ∀ i, i ≤ n → Hops u 0 i ∧ vz u i = (1, (i : Int) + 1)
 | 0,_ => ⟨.refl,qhl u⟩
 | i + 1, hi => by
   have ih := h.place i (by omega)
   have hl := h.le
   have h1 := ih.1.step (show i < u.size by omega)
   have h2 := qhp ih.1 (show i < u.size by omega)
   rw [h.dec (by omega)] at h1 h2
   refine ⟨h1,?_⟩
   rw [h2,if_neg (by decide),ih.2]
   exact Prod.ext rfl (by show (i : Int) + 1 + 1 = ((i + 1 : Nat) : Int) + 1; omega)
def tk (k : Int) (s : ByteArray) : Tok := ⟨k,s,0,0⟩
def qk1 (k : Int) : ByteArray := if k = 2 then qkb else if k = 3 then zh else if k = 4 then qhq else qhr
theorem qqy (k : Int) (s : ByteArray) : isT (tk k s) k s = true := by simp [isT,tk]
theorem qh2 {k : Int} {s t : ByteArray} (h : s.data.toList ≠ t.data.toList) : isT (tk k s) k t = false := by
 unfold isT tk
 rw [qdp,qdp]
 have : (s.data.toList == t.data.toList) = false := by simpa using h
 rw [this,Bool.and_false]
theorem sign_pow (k : Int) (r : List Tok) : hdT (tk 2 (qk1 k) :: r) 2 Go.Tw.caret = false := by
 unfold qk1
 split
 · exact qh2 (by decide)
 · split
   · exact qh2 (by decide)
   · split <;> exact qh2 (by decide)
theorem sign_mul {k : Int} (h : k = 4 ∨ k = 5) : mulK (tk 2 (qk1 k)) = some k := by
 rcases h with rfl | rfl
 · show mulK (tk 2 qhq) = some 4; unfold mulK; rw [if_pos (qqy 2 qhq)]
 · show mulK (tk 2 qhr) = some 5; unfold mulK; rw [if_neg (by rw [qh2 (by decide)]; decide),if_pos (qqy 2 qhr)]
def st (t : Tok) : Tok := tk t.kind t.text
def _root_.Go.Tw.POut.st : POut → POut
 | .bad r => .bad (r.map Go.Proofs.YtoincnplajnpnaaGreat.st)
 | .ok a r => .ok a (r.map Go.Proofs.YtoincnplajnpnaaGreat.st)
def _root_.Go.Tw.NOut.st : NOut → NOut
 | .bad r => .bad (r.map Go.Proofs.YtoincnplajnpnaaGreat.st)
 | .ok l r => .ok l (r.map Go.Proofs.YtoincnplajnpnaaGreat.st)
def _root_.Go.Tw.LO.st : LO → LO
 | .bad r => .bad (r.map Go.Proofs.YtoincnplajnpnaaGreat.st)
 | .ok n a r => .ok n a (r.map Go.Proofs.YtoincnplajnpnaaGreat.st)
def _root_.Go.Tw.LSO.st : LSO → LSO
 | .bad r => .bad (r.map Go.Proofs.YtoincnplajnpnaaGreat.st)
 | .ok l a r => .ok l a (r.map Go.Proofs.YtoincnplajnpnaaGreat.st)
def _root_.Go.Tw.PO.st : PO → PO
 | .bad r => .bad (r.map Go.Proofs.YtoincnplajnpnaaGreat.st)
 | .ok p => .ok p
def Cl (b : UInt8) : Prop := b ≠ 32 ∧ b ≠ 59 ∧ b ≠ 61
def ClS (s : ByteArray) : Prop := ∀ b ∈ s.data.toList,Cl b
def NoS (s : ByteArray) : Prop := ∀ b ∈ s.data.toList,b ≠ 32 ∧ b ≠ 61
theorem ClS.no {s : ByteArray} (h : ClS s) : NoS s := fun b hb => ⟨(h b hb).1,(h b hb).2.2⟩
def bk (l : List UInt8) : ByteArray := ⟨l.toArray⟩
def qk2 (k : Int) : Int := if k = 2 ∨ k = 3 then 1 else if k = 4 ∨ k = 5 then 2 else if k = 6 then 3 else if k = 7 then 4 else 5
def q0j : Ex → Int
 | .ref _ => 5
 | .num _ => 5
 | .neg _ => 3
 | .pow _ _ => 4
 | .bin k _ _ => if 4 ≤ k then 2 else 1
def TA (L : List Tok) (x : Ex) : Prop := ∀ (all : List NodeC) (r : List Tok) (o : POut),hdT r 2 Go.Tw.caret = false → hdK mulK r = none → Ps .sumL (all ++ x.nd all.length) r o → Ps .sum all (L ++ r) o
structure yn (l : List NodeC) (i : Int) (x : Ex) : Prop where
 ok : x.ok
 lie : ∃ b : Nat,At l b x ∧ i = (b : Int) + x.n - 1
theorem qge {l : List NodeC} {b : Nat} {x : Ex} (h : At l b x) {u : List NodeC} {c : NodeC} (e : x.nd b = u ++ [c]) : l[b + u.length]? = some c := by
 refine h u.length c ?_
 rw [e,List.getElem?_append_right (Nat.le_refl _),Nat.sub_self]; rfl
theorem yn.in_ {l : List NodeC} {i : Int} {x : Ex} (h : yn l i x) : 0 ≤ i ∧ i < l.length := by
 obtain ⟨hx,b,ha,hi⟩ := h
 have hp := x.n_pos
 have hl : (x.nd b)[x.n - 1]? = some ((x.nd b)[x.n - 1]'(by rw [x.nd_len]; omega)) := List.getElem?_eq_getElem _
 have := ha _ _ hl
 have h2 := (List.getElem?_eq_some_iff.1 this).1
 omega
theorem yn.ref {l : List NodeC} {i : Int} {t : ByteArray} (h : yn l i (.ref t)) : l[i.toNat]? = some (refN t) := by
 obtain ⟨_,b,ha,hi⟩ := h
 have h1 := qge ha (u := []) (c := refN t) rfl
 rw [show i.toNat = b + 0 by simp only [Ex.n] at hi; omega]; exact h1
theorem yn.num {l : List NodeC} {i : Int} {q : Rat} (h : yn l i (.num q)) : l[i.toNat]? = some (numN q) := by
 obtain ⟨_,b,ha,hi⟩ := h
 have h1 := qge ha (u := []) (c := numN q) rfl
 rw [show i.toNat = b + 0 by simp only [Ex.n] at hi; omega]; exact h1
theorem yn.neg {l : List NodeC} {i : Int} {x : Ex} (h : yn l i (.neg x)) : ∃ a,l[i.toNat]? = some (negN a) ∧ yn l a x ∧ a < i := by
 obtain ⟨hx,b,ha,hi⟩ := h
 have h1 := qge ha (u := x.nd b) rfl
 rw [x.nd_len] at h1
 refine ⟨(b : Int) + x.n - 1,?_,⟨hx,b,At.left ha rfl,rfl⟩,by simp only [Ex.n] at hi; omega⟩
 rw [show i.toNat = b + x.n by simp only [Ex.n] at hi; omega]; exact h1
theorem yn.pow {l : List NodeC} {i : Int} {x : Ex} {e : Int} (h : yn l i (.pow x e)) : ∃ a,l[i.toNat]? = some (powN a e) ∧ yn l a x ∧ a < i := by
 obtain ⟨hx,b,ha,hi⟩ := h
 have h1 := qge ha (u := x.nd b) rfl
 rw [x.nd_len] at h1
 refine ⟨(b : Int) + x.n - 1,?_,⟨hx.1,b,At.left ha rfl,rfl⟩,by simp only [Ex.n] at hi; omega⟩
 rw [show i.toNat = b + x.n by simp only [Ex.n] at hi; omega]; exact h1
theorem yn.bin {l : List NodeC} {i : Int} {x y : Ex} {k : Int} (h : yn l i (.bin k x y)) : ∃ a c,l[i.toNat]? = some (binN k a c) ∧ yn l a x ∧ yn l c y ∧ a < i ∧ c < i := by
 obtain ⟨⟨_,_,hx,hy⟩,b,ha,hi⟩ := h
 have h1 := qge ha (u := x.nd b ++ y.nd (b + x.n)) rfl
 rw [List.length_append,x.nd_len,y.nd_len] at h1
 have ha1 : At l b x := At.left ha (u := x.nd b) (v := y.nd (b + x.n) ++ [binN k ((b : Int) + x.n - 1) ((b : Int) + x.n + y.n - 1)]) (by simp only [Ex.nd,List.append_assoc])
 have ha2 := At.right (At.left ha (u := x.nd b ++ y.nd (b + x.n)) rfl) (u := x.nd b) (v := y.nd (b + x.n)) rfl
 rw [x.nd_len] at ha2
 refine ⟨(b : Int) + x.n - 1,(b : Int) + x.n + y.n - 1,?_,⟨hx,b,ha1,rfl⟩,⟨hy,b + x.n,ha2,by omega⟩,?_,?_⟩
 · rw [show i.toNat = b + (x.n + y.n) by simp only [Ex.n] at hi; omega]; exact h1
 · simp only [Ex.n] at hi; omega
 · simp only [Ex.n] at hi; omega
theorem q0k : ∀ (x : Ex) {l : List NodeC} {b : Nat},x.ok → At l b x → ∀ j,j < x.n → ∃ y,yn l ((b + j : Nat) : Int) y ∧ y.h ≤ x.h ∧ y.n ≤ x.n := by
 intro x
 induction x with
 | ref t => intro l b hx ha j hj; simp only [Ex.n] at hj; exact ⟨.ref t,⟨hx,b,ha,by simp only [Ex.n]; omega⟩,Nat.le_refl _,Nat.le_refl _⟩
 | num q => intro l b hx ha j hj; simp only [Ex.n] at hj; exact ⟨.num q,⟨hx,b,ha,by simp only [Ex.n]; omega⟩,Nat.le_refl _,Nat.le_refl _⟩
 | neg x ih =>
   intro l b hx ha j hj
   simp only [Ex.n] at hj
   by_cases h : j < x.n
   · obtain ⟨y, h1, h2, h3⟩ := ih hx (At.left ha (u := x.nd b) rfl) j h
     exact ⟨y,h1,by simp only [Ex.h]; omega,by simp only [Ex.n]; omega⟩
   · exact ⟨.neg x,⟨hx,b,ha,by simp only [Ex.n]; omega⟩,Nat.le_refl _,Nat.le_refl _⟩
 | pow x e ih =>
   intro l b hx ha j hj
   simp only [Ex.n] at hj
   by_cases h : j < x.n
   · obtain ⟨y, h1, h2, h3⟩ := ih hx.1 (At.left ha (u := x.nd b) rfl) j h
     exact ⟨y,h1,by simp only [Ex.h]; omega,by simp only [Ex.n]; omega⟩
   · exact ⟨.pow x e,⟨hx,b,ha,by simp only [Ex.n]; omega⟩,Nat.le_refl _,Nat.le_refl _⟩
 | bin k x y ih1 ih2 =>
   intro l b hx ha j hj
   simp only [Ex.n] at hj
   have ha1 : At l b x := At.left ha (u := x.nd b) (v := y.nd (b + x.n) ++ [binN k ((b : Int) + x.n - 1) ((b : Int) + x.n + y.n - 1)]) (by simp only [Ex.nd,List.append_assoc])
   have ha2 := At.right (At.left ha (u := x.nd b ++ y.nd (b + x.n)) rfl) (u := x.nd b) (v := y.nd (b + x.n)) rfl
   rw [x.nd_len] at ha2
   by_cases h : j < x.n
   · obtain ⟨z, h1, h2, h3⟩ := ih1 hx.2.2.1 ha1 j h
     exact ⟨z,h1,by simp only [Ex.h]; omega,by simp only [Ex.n]; omega⟩
   · by_cases h4 : j < x.n + y.n
     · obtain ⟨z, h1, h2, h3⟩ := ih2 hx.2.2.2 ha2 (j - x.n) (by omega)
       rw [show b + x.n + (j - x.n) = b + j by omega] at h1
       exact ⟨z,h1,by simp only [Ex.h]; omega,by simp only [Ex.n]; omega⟩
     · exact ⟨.bin k x y,⟨hx,b,ha,by simp only [Ex.n]; omega⟩,Nat.le_refl _,Nat.le_refl _⟩
theorem qqz : ∀ (l : List (ByteArray × Ex)) (b : Nat) {all : List NodeC}, qaq l → (∀ j c, (laid l b).2[j]? = some c → all[b + j]? = some c) → ∀ j, j < (laid l b).2.length → ∃ a ∈ l, ∃ y, yn all ((b + j : Nat) : Int) y ∧ y.h ≤ a.2.h ∧ y.n ≤ a.2.n
 | [],b,all,_,_,j,hj => by simp [laid] at hj
 | (s, x) :: l, b, all, h, ha, j, hj => by
   have e : (laid ((s,x) :: l) b).2 = x.nd b ++ (laid l (b + x.n)).2 := rfl
   have a1 := At.left ha e
   have a2 := At.right ha e
   rw [x.nd_len] at a2
   rw [e,List.length_append,x.nd_len] at hj
   by_cases h1 : j < x.n
   · obtain ⟨y, k1, k2, k3⟩ := q0k x (h _ List.mem_cons_self).2 a1 j h1
     exact ⟨_,List.mem_cons_self,y,k1,k2,k3⟩
   · obtain ⟨a, k0, y, k1, k2, k3⟩ := qqz l (b + x.n) (fun a ha => h a (List.mem_cons_of_mem _ ha)) a2 (j - x.n) (by omega)
     rw [show b + x.n + (j - x.n) = b + j by omega] at k1
     exact ⟨a,List.mem_cons_of_mem _ k0,y,k1,k2,k3⟩
theorem qq0 : ∀ (l : List (ByteArray × Ex)) (b : Nat) {all : List NodeC}, qaq l → (∀ (j : Nat) (c : NodeC), (laid l b).2[j]? = some c → all[b + j]? = some c) → ∀ (j : Nat) (c : LetC), (laid l b).1[j]? = some c → ∃ x, l[j]? = some (c.name, x) ∧ yn all c.root x
 | [],b,all,_,_,j,c,hj => by simp [laid] at hj
 | (s, x) :: l, b, all, h, ha, 0, c, hj => by
   have e : (laid ((s,x) :: l) b).2 = x.nd b ++ (laid l (b + x.n)).2 := rfl
   have a1 := At.left ha e
   have e1 : (⟨s,(b : Int) + x.n - 1⟩ : LetC) = c := Option.some.inj hj
   subst e1
   exact ⟨x,rfl,⟨(h _ List.mem_cons_self).2,b,a1,rfl⟩⟩
 | (s, x) :: l, b, all, h, ha, j + 1, c, hj => by
   have e : (laid ((s,x) :: l) b).2 = x.nd b ++ (laid l (b + x.n)).2 := rfl
   have a2 := At.right ha e
   rw [x.nd_len] at a2
   exact qq0 l (b + x.n) (fun a ha => h a (List.mem_cons_of_mem _ ha)) a2 j c hj
theorem zm.node {p : qx} {l : List (ByteArray × Ex)} (h : zm p l) {i : Int} (h0 : 0 ≤ i) (h1 : i < p.all.length) : ∃ y,yn p.all i y ∧ y.h ≤ 60 := by
 have ha : ∀ j c,(laid l 0).2[j]? = some c → p.all[0 + j]? = some c := fun j c hj => by rw [h.all,Nat.zero_add]; exact hj
 obtain ⟨a,k0,y,k1,k2,k3⟩ := qqz l 0 h.ok ha i.toNat (by rw [← h.all]; omega)
 rw [show ((0 + i.toNat : Nat) : Int) = i by omega] at k1
 exact ⟨y,k1,Nat.le_trans k2 (h.low a k0)⟩
theorem zm.root {p : qx} {l : List (ByteArray × Ex)} (h : zm p l) {j : Nat} {c : LetC} (hj : p.lets[j]? = some c) : ∃ x,l[j]? = some (c.name,x) ∧ yn p.all c.root x ∧ x.h ≤ 60 := by
 have ha : ∀ j c,(laid l 0).2[j]? = some c → p.all[0 + j]? = some c := fun j c hj => by rw [h.all,Nat.zero_add]; exact hj
 rw [h.lets] at hj
 obtain ⟨x,k1,k2⟩ := qq0 l 0 h.ok ha j c hj
 exact ⟨x,k1,k2,h.low (c.name,x) (List.mem_of_getElem? k1)⟩
theorem yn.few {l : List NodeC} {i : Int} {x : Ex} (h : yn l i x) : x.n ≤ l.length := by
 have h1 := h.in_
 obtain ⟨_,b,_,hi⟩ := h
 omega
theorem qq1 {l : List NodeC} {i : Int} {x : Ex} (h : yn l i x) {c : NodeC} (hc : l[i.toNat]? = some c) : qk2 c.kind = q0j x ∧ (c.kind = 0 → x = .ref c.name) ∧ (c.kind = 1 → ∃ q, x = .num q ∧ c = numN q) ∧
   (c.kind = 6 → ∃ y,x = .neg y ∧ yn l c.a y ∧ y.n < x.n) ∧ (c.kind = 7 → ∃ y,x = .pow y c.e ∧ yn l c.a y ∧ y.n < x.n) ∧
   (c.kind ≠ 0 → c.kind ≠ 1 → c.kind ≠ 6 → c.kind ≠ 7 → ∃ y z,x = .bin c.kind y z ∧ yn l c.a y ∧ yn l c.b z ∧ y.n < x.n ∧ z.n < x.n ∧ 2 ≤ c.kind ∧ c.kind ≤ 5) := by
 cases x with
 | ref t =>
   have h1 := h.ref
   rw [hc] at h1
   cases Option.some.inj h1
   exact ⟨rfl,fun _ => rfl,fun h => absurd h (by show ¬ (0 : Int) = 1; decide),fun h => absurd h (by show ¬ (0 : Int) = 6; decide),fun h => absurd h (by show ¬ (0 : Int) = 7; decide),fun h => absurd rfl h⟩
 | num q =>
   have h1 := h.num
   rw [hc] at h1
   cases Option.some.inj h1
   exact ⟨rfl,fun h => absurd h (by show ¬ (1 : Int) = 0; decide),fun _ => ⟨q,rfl,rfl⟩,fun h => absurd h (by show ¬ (1 : Int) = 6; decide),fun h => absurd h (by show ¬ (1 : Int) = 7; decide),fun _ h => absurd rfl h⟩
 | neg y =>
   obtain ⟨a,h1,h2,h3⟩ := h.neg
   rw [hc] at h1
   cases Option.some.inj h1
   exact ⟨rfl,fun h => absurd h (by show ¬ (6 : Int) = 0; decide),fun h => absurd h (by show ¬ (6 : Int) = 1; decide),fun _ => ⟨y,rfl,h2,by simp only [Ex.n]; omega⟩,fun h => absurd h (by show ¬ (6 : Int) = 7; decide),fun _ _ h => absurd rfl h⟩
 | pow y e =>
   obtain ⟨a,h1,h2,h3⟩ := h.pow
   rw [hc] at h1
   cases Option.some.inj h1
   exact ⟨rfl,fun h => absurd h (by show ¬ (7 : Int) = 0; decide),fun h => absurd h (by show ¬ (7 : Int) = 1; decide),fun h => absurd h (by show ¬ (7 : Int) = 6; decide),fun _ => ⟨y,rfl,h2,by simp only [Ex.n]; omega⟩,fun _ _ _ h => absurd rfl h⟩
 | bin k y z =>
   obtain ⟨a,b,h1,h2,h3,_,_⟩ := h.bin
   have hk := h.ok
   rw [hc] at h1
   cases Option.some.inj h1
   obtain ⟨k2,k5,_,_⟩ := hk
   refine ⟨?_,fun h => ?_,fun h => ?_,fun h => ?_,fun h => ?_,fun _ _ _ _ => ⟨y,z,rfl,h2,h3,by simp only [Ex.n]; omega,by simp only [Ex.n]; omega,k2,k5⟩⟩
   · show qk2 k = if 4 ≤ k then 2 else 1
     unfold qk2
     (repeat' split) <;> omega
   · change k = 0 at h; omega
   · change k = 1 at h; omega
   · change k = 6 at h; omega
   · change k = 7 at h; omega
end Go.Proofs.YtoincnplajnpnaaGreat
