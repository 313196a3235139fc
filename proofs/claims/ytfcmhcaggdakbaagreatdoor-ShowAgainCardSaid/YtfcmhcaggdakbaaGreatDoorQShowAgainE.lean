/-
  ShowAgain, part 5: the texts RefH2, Law11, RefW2, ShowR, Map, Map2, Scope, Scope2, Scope3, Ref13, SameG, Scope4, Ref13b, Law13, Needs, Tree11, Law12, Open, Open11 as one.
-/
import Derived.Test.YtfcmhcaggdakbaaGreatDoorQShowAgainD
import Derived.Laws.Entries
import Derived.MapKept
import Derived.Deep.Slices
set_option linter.unusedVariables false
set_option linter.unusedSimpArgs false
set_option linter.unnecessarySimpa false
set_option maxHeartbeats 1000000
namespace Go.Proofs.YtfcmhcaggdakbaaGreatDoor
open Go Go.Tw
theorem rrNodeEq_any (x y : NodeV) {I : Hp} (hx : x.ok I) (hy : y.ok I) (he : x.c = y.c) : Fun Tryz.prog 61 [.agg x.cells.toArray, .agg y.cells.toArray] I [] (fun v _ _ => v = .bool true) := by
  obtain ⟨⟨kind, a, b, e, name, neg, n, d⟩, vn, vd⟩ := x
  obtain ⟨c2, vn2, vd2⟩ := y
  change (⟨kind, a, b, e, name, neg, n, d⟩ : NodeC) = c2 at he
  subst he
  have ha : Ws I vn n := hx.1
  have hb : Ws I vd d := hx.2
  have hc : Ws I vn2 n := hy.1
  have hd : Ws I vd2 d := hy.2
  unfold NodeV.cells
  intro w hw
  refine enter2 _ Tryz.func61 rfl Tryz.ntmps61 rfl ?_ hw;refine sR ?_;refine o_box trivial rfl rfl rfl (fun b2 => ?_);refine o_box trivial rfl rfl rfl (fun b3 => ?_);refine oV ?_;refine nS ?_;refine oF 0 Tryz.underlying37 Tryz.sizeOf3 ?_;refine oL Tryz.isAgg3 ?_;refine oF 0 Tryz.underlying37 Tryz.sizeOf3 ?_;refine oL Tryz.isAgg3 ?_;refine oV ?_;refine' o_and trivial trivial rfl rfl rfl rfl rfl rfl rfl rfl (fun hb10 => ?_) ?_;rotate_left
  ·
   have fb10 := hb10
   try simp only [bl] at fb10
   refine gF hb10 1 Tryz.underlying37 Tryz.sizeOf3 ?_;refine gL hb10 Tryz.isAgg3 ?_;refine gF hb10 1 Tryz.underlying37 Tryz.sizeOf3 ?_;refine gL hb10 Tryz.isAgg3 ?_;refine gV hb10 ?_;refine oN ?_;exact joins rfl
  refine' o_and trivial trivial rfl rfl rfl rfl rfl rfl rfl rfl (fun hb17 => ?_) ?_;rotate_left
  ·
   have fb17 := hb17
   try simp only [bl] at fb17
   refine gF hb17 2 Tryz.underlying37 Tryz.sizeOf3 ?_;refine gL hb17 Tryz.isAgg3 ?_;refine gF hb17 2 Tryz.underlying37 Tryz.sizeOf3 ?_;refine gL hb17 Tryz.isAgg3 ?_;refine gV hb17 ?_;refine oN ?_;exact joins rfl
  refine' o_and trivial trivial rfl rfl rfl rfl rfl rfl rfl rfl (fun hb24 => ?_) ?_;rotate_left
  ·
   have fb24 := hb24
   try simp only [bl] at fb24
   refine gF hb24 3 Tryz.underlying37 Tryz.sizeOf3 ?_;refine gL hb24 Tryz.isAgg3 ?_;refine gF hb24 3 Tryz.underlying37 Tryz.sizeOf3 ?_;refine gL hb24 Tryz.isAgg3 ?_;refine gV hb24 ?_;refine oN ?_;exact joins rfl
  refine' o_and trivial trivial rfl rfl rfl rfl rfl rfl rfl rfl (fun hb31 => ?_) ?_;rotate_left
  ·
   have fb31 := hb31
   try simp only [bl] at fb31
   refine gF hb31 4 Tryz.underlying37 Tryz.sizeOf9 ?_;refine gL hb31 Tryz.isAgg9 ?_;refine gF hb31 4 Tryz.underlying37 Tryz.sizeOf9 ?_;refine gL hb31 Tryz.isAgg9 ?_;refine gV hb31 ?_;refine oN ?_;exact joins rfl
  refine' o_and trivial trivial rfl rfl rfl rfl rfl rfl rfl rfl (fun hb38 => ?_) ?_;rotate_left
  ·
   have fb38 := hb38
   try simp only [bl] at fb38
   refine gF hb38 5 Tryz.underlying37 Tryz.sizeOf35 ?_;refine o_loadA (wS rfl rfl hb38) rfl Tryz.isAgg35 Tryz.sizeOf35 rfl (by repeat constructor) (by repeat constructor) ?_;refine gF hb38 5 Tryz.underlying37 Tryz.sizeOf35 ?_;refine o_loadA (wS rfl rfl hb38) rfl Tryz.isAgg35 Tryz.sizeOf35 rfl (by repeat constructor) (by repeat constructor) ?_;refine o_callQ (wS rfl rfl hb38) rfl Tryz.call67 rfl (rEqual_any neg neg vn vd vn2 vd2 n d n d ha hb hc hd) ?_;refine oN ?_;exact joins rfl
  refine oV ?_;refine nE ?_;refine ret1 rfl rfl ?_;refine leaf0 (congrArg Value.bool ?_)
  simp
theorem rrNamesEq_any (va vb : Value) (l : List ByteArray) {I : Hp} (ha : Slc I 1 va (scs l)) (hb : Slc I 1 vb (scs l)) : Fun Tryz.prog 62 [va, vb] I [] (fun v _ _ => v = .bool true) := by
  have hl := scs_len l
  have hmx := ha.most
  rw [hl] at hmx
  unfold maxLen at hmx
  intro w hw
  refine enter2 _ Tryz.func62 rfl Tryz.ntmps62 rfl ?_ hw;refine sR ?_;refine oV ?_;refine nU ?_;refine oV ?_;refine o_lenSlc trivial rfl Tryz.underlying22 rfl (ha) ?_;refine oV ?_;refine o_lenSlc trivial rfl Tryz.underlying22 rfl (hb) ?_;refine oV ?_;refine nT ?_;refine cC rfl (fun h1 => ?_) (fun h1 => ?_)
  ·
   have f1 := h1;try simp only [bl] at f1
   exfalso; simp at h1
  have f1 := h1;try simp only [bl] at f1
  refine cK (tC (cS (sR ?_)));refine oV ?_;refine oN (tC (cB ?_));refine c_loop (ι := Nat) [0, 1] (.cons rfl (.cons rfl .nil)) (fun x => l.length - x) (fun x E0 => (5, .int .i64 (x : Int)) :: E0) (fun x => St w [] I []) (fun x => x ≤ l.length) (0) (sC rfl (sC rfl (sC rfl sN))) (fun _ h => h) (Nat.zero_le _) ?_;rintro i hi
  try dsimp only
  refine cS (sR ?_);iterate 2 refine oV ?_
  refine o_lenSlc trivial rfl Tryz.underlying22 rfl (ha) ?_;refine oV ?_;refine nT ?_;refine cC rfl (fun h2 => ?_) (fun h2 => ?_)
  ·
   have f2 := h2;try simp only [bl] at f2
   obtain ⟨s, hs⟩ : ∃ s, l[i]? = some s := ⟨l[i]'(by omega), List.getElem?_eq_getElem (by omega)⟩
   refine cK (tC (cS (cB (cS ?_))));refine c_quiet (by kernel_rfl) (by kernel_rfl) (fun _ h => h.drawn) ?_;iterate 2 refine oV ?_
   refine o_elem trivial rfl Tryz.underlying22 Tryz.sizeOf9 rfl (ha) rfl (by omega) ?_;refine o_load1I trivial rfl Tryz.isAgg9 rfl (scs_at ha hs) ?_;iterate 2 refine oV ?_
   refine o_elem trivial rfl Tryz.underlying22 Tryz.sizeOf9 rfl (hb) rfl (by omega) ?_;refine o_load1I trivial rfl Tryz.isAgg9 rfl (scs_at hb hs) ?_;refine oV ?_;refine nT ?_;refine cC rfl (fun h3 => ?_) (fun h3 => ?_)
   ·
    have f3 := h3;try simp only [bl] at f3
    exfalso; simp at h3
   have f3 := h3;try simp only [bl] at f3
   refine cK (blk_n (tC (cR ?_)));refine oV ?_
   first | (refine o_add trivial rfl rfl rfl ?_ ?_; (omega)) | refine oV ?_
   refine oV ?_;refine oN ?_;exact again (i + 1) (sC rfl (sC rfl (sC rfl sN))) (fun _ h => h) (by show l.length - (i + 1) < l.length - i; omega) (by show i + 1 ≤ _; omega)
  have f2 := h2;try simp only [bl] at f2
  refine c_exit (then_x (then_x (blk_eq rfl (tC (sR ?_)))));refine oV ?_;refine nE ?_;refine ret1 rfl rfl ?_;exact leaf0 rfl
theorem rrSame_any (vi vl vo va ui ul uo ua : Value) (p : ProgC) (ns ms : List NodeV) {I : Hp} (hp : ProgV I vi vl vo va p ns) (hq : ProgV I ui ul uo ua p ms) :
    Fun Tryz.prog 28 [.agg #[vi, vl, vo, va], .agg #[ui, ul, uo, ua]] I [] (fun v _ _ => v = .bool true) := by
  have hsi := hp.si
  have hsl := hp.sl
  have hso := hp.so
  have hsa := hp.sa
  have gsi := hq.si
  have gsl := hq.sl
  have gso := hq.so
  have gsa := hq.sa
  have hll : (p.lets.map LetC.cells).length = p.lets.length := List.length_map _
  have hla := nds_len ns
  have gla := nds_len ms
  have hal : p.all.length = ns.length := by rw [← hp.eq, List.length_map]
  have gal : p.all.length = ms.length := by rw [← hq.eq, List.length_map]
  have hmx := hsl.most
  rw [hll] at hmx
  unfold maxLen at hmx
  have hmy := hsa.most
  rw [hla] at hmy
  unfold maxLen at hmy
  intro w hw
  refine enter2 _ Tryz.func28 rfl Tryz.ntmps28 rfl ?_ hw;refine sR ?_;refine o_box trivial rfl rfl rfl (fun b2 => ?_);refine o_box trivial rfl rfl rfl (fun b3 => ?_);refine oV ?_;refine nU ?_;refine oF 1 Tryz.underlying26 Tryz.sizeOf23 ?_;refine oL Tryz.isAgg23 ?_;refine o_lenSlc trivial rfl Tryz.underlying23 rfl (hsl) ?_;refine oF 1 Tryz.underlying26 Tryz.sizeOf23 ?_;refine oL Tryz.isAgg23 ?_;refine o_lenSlc trivial rfl Tryz.underlying23 rfl (gsl) ?_;refine oV ?_;refine' o_or trivial trivial rfl rfl rfl rfl rfl rfl rfl rfl (fun hb15 => ?_) ?_;rotate_left
  ·
   have fb15 := hb15
   try simp only [bl] at fb15
   refine gF hb15 3 Tryz.underlying26 Tryz.sizeOf24 ?_;refine gL hb15 Tryz.isAgg24 ?_;refine o_lenSlc (wS rfl rfl hb15) rfl Tryz.underlying24 rfl (hsa) ?_;refine gF hb15 3 Tryz.underlying26 Tryz.sizeOf24 ?_;refine gL hb15 Tryz.isAgg24 ?_;refine o_lenSlc (wS rfl rfl hb15) rfl Tryz.underlying24 rfl (gsa) ?_;refine gV hb15 ?_;refine oN ?_;exact joins rfl
  refine nT ?_;refine cC rfl (fun h1 => ?_) (fun h1 => ?_)
  ·
   have f1 := h1;try simp only [bl] at f1
   exfalso
   simp at h1
   omega
  have f1 := h1;try simp only [bl] at f1
  refine cK (tC (cS (sR ?_)));refine oV ?_;refine oN (tC (cB ?_));refine c_loop (ι := Nat) [2, 3] (.cons rfl (.cons rfl .nil)) (fun x => p.lets.length - x) (fun x E0 => (5, .int .i64 (x : Int)) :: E0) (fun x => St w [] I [.box b3 (.cells #[ui, ul, uo, ua] 26 (0, 0)), .box b2 (.cells #[vi, vl, vo, va] 26 (0, 0))]) (fun x => x ≤ p.lets.length) (0) (sC rfl (sC rfl (sC rfl sN))) (fun _ h => h) (Nat.zero_le _) ?_;rintro i hi
  try dsimp only
  refine cS (sR ?_);refine oV ?_;refine oF 1 Tryz.underlying26 Tryz.sizeOf23 ?_;refine oL Tryz.isAgg23 ?_;refine o_lenSlc trivial rfl Tryz.underlying23 rfl (hsl) ?_;refine oV ?_;refine nT ?_;refine cC rfl (fun h2 => ?_) (fun h2 => ?_)
  ·
   have f2 := h2;try simp only [bl] at f2
   obtain ⟨c, hc⟩ : ∃ c, p.lets[i]? = some c := ⟨p.lets[i]'(by omega), List.getElem?_eq_getElem (by omega)⟩
   refine cK (tC (cS (cB (cS ?_))));refine c_quiet (by kernel_rfl) (by kernel_rfl) (fun _ h => h.drawn) ?_;refine oF 1 Tryz.underlying26 Tryz.sizeOf23 ?_;refine oL Tryz.isAgg23 ?_;refine oV ?_;refine o_elem trivial rfl Tryz.underlying23 Tryz.sizeOf39 rfl (hsl) rfl (by omega) ?_;refine o_loadAI trivial rfl Tryz.isAgg39 Tryz.sizeOf39 rfl rfl (lts_at hsl hc) ?_;refine oF 1 Tryz.underlying26 Tryz.sizeOf23 ?_;refine oL Tryz.isAgg23 ?_;refine oV ?_;refine o_elem trivial rfl Tryz.underlying23 Tryz.sizeOf39 rfl (gsl) rfl (by omega) ?_;refine o_loadAI trivial rfl Tryz.isAgg39 Tryz.sizeOf39 rfl rfl (lts_at gsl hc) ?_;refine o_neqV trivial rfl rfl rfl Tryz.eqGuardType39 (EqV.struct Tryz.underlying39 Tryz.stoodInHeld39 (EqP.cons (T := 9) (o := 0) (by decide) rfl rfl (.one Tryz.isAgg9 (by repeat constructor)) (.one Tryz.isAgg9 (by repeat constructor)) (EqV.str Tryz.underlying9) (EqP.last (T := 3) (o := 1) (by decide) rfl rfl (.one Tryz.isAgg3 (by repeat constructor)) (.one Tryz.isAgg3 (by repeat constructor)) (EqV.int Tryz.underlying3)))) ?_;refine nT ?_;refine cC rfl (fun h3 => ?_) (fun h3 => ?_)
   ·
    have f3 := h3;try simp only [bl] at f3
    exfalso
    simp at h3
   have f3 := h3;try simp only [bl] at f3
   refine cK (blk_n (tC (cR ?_)));refine oV ?_
   first | (refine o_add trivial rfl rfl rfl ?_ ?_; (omega)) | refine oV ?_
   refine oV ?_;refine oN ?_;exact again (i + 1) (sC rfl (sC rfl (sC rfl sN))) (fun _ h => h) (by show p.lets.length - (i + 1) < p.lets.length - i; omega) (by show i + 1 ≤ _; omega)
  have f2 := h2;try simp only [bl] at f2
  refine c_exit (then_x (then_x (blk_eq rfl (tC (cS (sR ?_))))));refine oV ?_;refine oN (tC (cB ?_));refine c_loop (ι := Nat) [2, 3] (.cons rfl (.cons rfl .nil)) (fun x => ns.length - x) (fun x E0 => (6, .int .i64 (x : Int)) :: E0) (fun x => St w [] I [.box b3 (.cells #[ui, ul, uo, ua] 26 (0, 0)), .box b2 (.cells #[vi, vl, vo, va] 26 (0, 0))]) (fun x => x ≤ ns.length) (0) (sC rfl (sC rfl (sC rfl sN))) (fun _ h => h) (Nat.zero_le _) ?_;rintro j hj
  try dsimp only
  refine cS (sR ?_);refine oV ?_;refine oF 3 Tryz.underlying26 Tryz.sizeOf24 ?_;refine oL Tryz.isAgg24 ?_;refine o_lenSlc trivial rfl Tryz.underlying24 rfl (hsa) ?_;refine oV ?_;refine nT ?_;refine cC rfl (fun h4 => ?_) (fun h4 => ?_)
  ·
   have f4 := h4;try simp only [bl] at f4
   obtain ⟨x, hx⟩ : ∃ x, ns[j]? = some x := ⟨ns[j]'(by omega), List.getElem?_eq_getElem (by omega)⟩
   obtain ⟨y, hy⟩ : ∃ y, ms[j]? = some y := ⟨ms[j]'(by omega), List.getElem?_eq_getElem (by omega)⟩
   have hxy : x.c = y.c := by
     have e := congrArg (fun l => l[j]?) (hp.eq.trans hq.eq.symm)
     simp only [List.getElem?_map, hx, hy] at e
     exact Option.some.inj e
   refine cK (tC (cS (cB (cS ?_))));refine c_quiet (by kernel_rfl) (by kernel_rfl) (fun _ h => h.drawn) ?_;refine oF 3 Tryz.underlying26 Tryz.sizeOf24 ?_;refine oL Tryz.isAgg24 ?_;refine oV ?_;refine o_elem trivial rfl Tryz.underlying24 Tryz.sizeOf37 rfl (hsa) rfl (by omega) ?_;refine o_loadAI trivial rfl Tryz.isAgg37 Tryz.sizeOf37 rfl rfl (nds_at hsa hx) ?_;refine oF 3 Tryz.underlying26 Tryz.sizeOf24 ?_;refine oL Tryz.isAgg24 ?_;refine oV ?_;refine o_elem trivial rfl Tryz.underlying24 Tryz.sizeOf37 rfl (gsa) rfl (by omega) ?_;refine o_loadAI trivial rfl Tryz.isAgg37 Tryz.sizeOf37 rfl rfl (nds_at gsa hy) ?_;refine oQ Tryz.call61 rfl (rrNodeEq_any x y (hp.ok x (List.mem_of_getElem? hx)) (hq.ok y (List.mem_of_getElem? hy)) hxy) ?_;refine oV ?_;refine nS ?_;iterate 2 refine oV ?_
   refine nT ?_;refine c_cond_f rfl (by rfl) ?_;refine cK (blk_n (tC (cR ?_)));refine oV ?_
   first | (refine o_add trivial rfl rfl rfl ?_ ?_; (omega)) | refine oV ?_
   refine oV ?_;refine oN ?_;exact again (j + 1) (sC rfl (sC rfl (sC rfl sN))) (fun _ h => h) (by show ns.length - (j + 1) < ns.length - j; omega) (by show j + 1 ≤ _; omega)
  have f4 := h4;try simp only [bl] at f4
  refine c_exit (then_x (then_x (blk_eq rfl (tC (sR ?_)))));refine oF 0 Tryz.underlying26 Tryz.sizeOf22 ?_;refine oL Tryz.isAgg22 ?_;refine oF 0 Tryz.underlying26 Tryz.sizeOf22 ?_;refine oL Tryz.isAgg22 ?_;refine oQ Tryz.call62 rfl (rrNamesEq_any vi ui p.ins hsi gsi) ?_;refine' o_and trivial trivial rfl rfl rfl rfl rfl rfl rfl rfl (fun hb67 => ?_) ?_;rotate_left
  ·
   have fb67 := hb67
   try simp only [bl] at fb67
   refine gF hb67 2 Tryz.underlying26 Tryz.sizeOf22 ?_;refine gL hb67 Tryz.isAgg22 ?_;refine gF hb67 2 Tryz.underlying26 Tryz.sizeOf22 ?_;refine gL hb67 Tryz.isAgg22 ?_;refine o_callQ (wS rfl rfl hb67) rfl Tryz.call62 rfl (rrNamesEq_any vo uo p.outs hso gso) ?_;refine oN ?_;exact joins rfl
  refine oV ?_;refine nE ?_;refine ret1 rfl rfl ?_;exact leaf0 rfl
def awX : ByteArray := ⟨#[120]⟩
def awA : ByteArray := ⟨#[97]⟩
theorem nameZ_X : nameZ awX = true := by kernel_rfl
theorem nameZ_A : nameZ awA = true := by kernel_rfl
theorem isT_no {x : Tok} {k : Int} {t : ByteArray} (h : x.kind ≠ k) : isT x k t = false := by simp [isT, h]
end Go.Proofs.YtfcmhcaggdakbaaGreatDoor
namespace Go.Tw
open Go Go.RowKit
section
variable {P : Program} {Q : Exit → Act → World → Prop} {n : Nat} {D : List Deferred} {E : Env} {S S' : World → Prop} {ops : Array Oper} {rest : List Oper} {d : Nat} {op : Op} {ty : TypeId} {pos : String} {aft : Array Edge} {g : Option (Nat × Bool)} {v : Value} {w0 : World} {X : List Nat} {I : Hp} {B : List Item}
theorem map_set {w : World} {b : Nat} {o o' : Obj} (hb : w.heap[b]? = some o) : But (some b) w { w with heap := w.heap.setIfInBounds b o' } ∧ (w.heap.setIfInBounds b o')[b]? = some o' := by
  refine ⟨⟨rfl, rfl, rfl, by simp, fun k hk hne => ?_⟩, ?_⟩
  · have : b ≠ k := fun e => hne (by rw [e])
    simp [Array.getElem?_setIfInBounds, this]
  · have hlt := (Array.getElem?_eq_some_iff.1 hb).1
    simp [hlt]
end
end Go.Tw
namespace Go.Tw
open Go Go.RowKit
section
variable {P : Program} {Q : Exit → Act → World → Prop} {n : Nat} {D : List Deferred} {E : Env} {S S' : World → Prop} {ops : Array Oper} {rest : List Oper} {d : Nat} {op : Op} {ty : TypeId} {pos : String} {aft : Array Edge} {g : Option (Nat × Bool)} {v : Value} {w0 : World} {X : List Nat} {I : Hp} {B : List Item}
end
end Go.Tw
namespace Go.Proofs.YtfcmhcaggdakbaaGreatDoor
open Go Go.Tw
def pc (m : Bool) : Nat := if m then 1 else 0
def inn : Ex → Nat
  | .ref _ => 0
  | .num _ => 0
  | .neg x => inn x + pc (decide (bindE x < 3))
  | .pow x _ => inn x + pc (decide (bindE x < 5))
  | .bin k x y => inn x + pc (decide (bindE x < if 4 ≤ k then 2 else 1)) + (inn y + pc (decide (bindE y < (if 4 ≤ k then 2 else 1) + 1)))
def need (x : Ex) (m : Int) : Nat := inn x + pc (decide (bindE x < m))
def Lv.at_ : Lv → Int
  | .atom => 5
  | .powL => 4
  | .power => 4
  | .factor => 3
  | .prodL => 2
  | .product => 2
  | .sumL => 1
  | .sum => 1
theorem placeGo_one (s : ByteArray) (a : Int) : ∀ (f i : Nat) (l c : Int), 1 ≤ l → 1 ≤ c → 1 ≤ (placeGo s a f i l c).1 ∧ 1 ≤ (placeGo s a f i l c).2
  | 0, i, l, c, hl, hc => ⟨hl, hc⟩
  | f + 1, i, l, c, hl, hc => by
    unfold placeGo
    split
    · exact ⟨hl, hc⟩
    · split
      · exact ⟨hl, hc⟩
      · split
        · exact placeGo_one s a f _ _ _ (by omega) (by omega)
        · exact placeGo_one s a f _ _ _ (by omega) (by omega)
theorem place_one (s : ByteArray) (a : Int) : 1 ≤ (placeZ s a).1 ∧ 1 ≤ (placeZ s a).2 := placeGo_one s a _ _ _ _ (by decide) (by decide)
def LexOne (r : LexR) : Prop := (r.err ≠ 0 → 1 ≤ r.line ∧ 1 ≤ r.col) ∧ ∀ t ∈ r.toks, 1 ≤ t.line ∧ 1 ≤ t.col
theorem lexGo_one (s : ByteArray) : ∀ (f i : Nat) (out : List Tok), (∀ t ∈ out, 1 ≤ t.line ∧ 1 ≤ t.col) → LexOne (lexGo s f i out)
  | 0, i, out, h => ⟨fun h => absurd rfl h, h⟩
  | f + 1, i, out, h => by
    unfold lexGo
    split
    · exact ⟨fun h => absurd rfl h, h⟩
    · split
      · exact lexGo_one s f _ _ h
      · split
        · exact ⟨fun _ => place_one s i, fun t ht => by cases ht⟩
        · split
          · exact ⟨fun _ => place_one s i, fun t ht => by cases ht⟩
          · refine lexGo_one s f _ _ fun t ht => ?_
            rcases List.mem_append.1 ht with ht | ht
            · exact h t ht
            · rw [List.mem_singleton.1 ht]; exact place_one s i
theorem lexZ_one (s : ByteArray) : LexOne (lexZ s) := by
  unfold lexZ
  split
  · exact ⟨fun _ => ⟨by decide, by decide⟩, fun t ht => by cases ht⟩
  · exact lexGo_one s _ _ _ fun t ht => by cases ht
def _root_.Go.Tw.NOut.rest : NOut → List Tok
  | .bad r => r
  | .ok _ r => r
theorem namesZ_suf : ∀ (r : List Tok), (namesZ r).rest <:+ r
  | [] => List.suffix_refl _
  | [x] => by
    unfold namesZ
    split
    · exact List.nil_suffix
    · exact List.suffix_refl _
  | x :: y :: r => by
    have ih := namesZ_suf r
    unfold namesZ
    split
    · split
      · cases h : namesZ r with
        | bad r1 => rw [h] at ih; exact List.IsSuffix.trans ih ⟨[_, _], rfl⟩
        | ok l r1 => rw [h] at ih; exact List.IsSuffix.trans ih ⟨[_, _], rfl⟩
      · split
        · exact ⟨[_, _], rfl⟩
        · exact List.suffix_cons _ _
    · exact List.suffix_refl _
def _root_.Go.Tw.LO.rest : LO → List Tok
  | .bad r => r
  | .ok _ _ r => r
theorem _root_.Go.Tw.Lt1.suf {all : List NodeC} {r : List Tok} {o : LO} (h : Lt1 all r o) : o.rest <:+ r := by
  cases h with
  | noname _ => exact List.suffix_refl _
  | noeq _ _ => exact List.suffix_cons _ _
  | sumbad _ _ h => exact List.IsSuffix.trans h.suf ⟨[_, _], rfl⟩
  | nosemi _ _ h _ => exact List.IsSuffix.trans h.suf ⟨[_, _], rfl⟩
  | ok _ _ h _ => exact List.IsSuffix.trans ((List.suffix_cons _ _).trans h.suf) ⟨[_, _], rfl⟩
def _root_.Go.Tw.LSO.rest : LSO → List Tok
  | .bad r => r
  | .ok _ _ r => r
theorem _root_.Go.Tw.Lts.suf {ls : List LetC} {all : List NodeC} {r : List Tok} {o : LSO} (h : Lts ls all r o) : o.rest <:+ r := by
  induction h with
  | fin _ => exact List.suffix_refl _
  | bad _ h => exact List.IsSuffix.trans h.suf (List.suffix_cons _ _)
  | more _ h _ ih => exact ih.trans (List.IsSuffix.trans h.suf (List.suffix_cons _ _))
theorem _root_.Go.Tw.Prg.suf {r r1 : List Tok} (h : Prg r (.bad r1)) : r1 <:+ r := by
  have nm : ∀ {r r1 : List Tok} {l : List ByteArray}, namesZ r = .ok l r1 → r1 <:+ r := fun {r r1 l} h => by have := namesZ_suf r; rw [h] at this; exact this
  have nb : ∀ {r r1 : List Tok}, namesZ r = .bad r1 → r1 <:+ r := fun {r r1} h => by have := namesZ_suf r; rw [h] at this; exact this
  cases h with
  | noin _ => exact List.suffix_refl _
  | insbad _ h => exact (nb h).trans (List.suffix_cons _ _)
  | letsbad _ h1 h2 => exact h2.suf.trans ((nm h1).trans (List.suffix_cons _ _))
  | noout _ h1 h2 _ => exact h2.suf.trans ((nm h1).trans (List.suffix_cons _ _))
  | outsbad _ h1 h2 _ h3 => exact (nb h3).trans ((List.suffix_cons _ _).trans (h2.suf.trans ((nm h1).trans (List.suffix_cons _ _))))
  | tail _ h1 h2 _ h3 => exact (nm h3).trans ((List.suffix_cons _ _).trans (h2.suf.trans ((nm h1).trans (List.suffix_cons _ _))))
theorem parseZ_cases (s : ByteArray) : ((parseZ s).err ≠ 0 ∧ (parseZ s).p = noP ∧ 1 ≤ (parseZ s).line ∧ 1 ≤ (parseZ s).col) ∨ ((parseZ s).err = 0 ∧ (parseZ s).line = 0 ∧ (parseZ s).col = 0 ∧ ∃ l, RightP (parseZ s).p l) := by
  have hl := lexZ_one s
  unfold parseZ
  split
  · rename_i h
    exact .inl ⟨h, rfl, hl.1 h⟩
  · have hP := prgZ_is (lexZ s).toks
    generalize prgZ (lexZ s).toks = o at hP
    cases o with
    | ok p =>
      unfold parseT
      dsimp only
      split
      · rename_i h; exact .inr ⟨rfl, rfl, rfl, tZ_iff.1 h⟩
      · exact .inl ⟨by decide, rfl, by decide, by decide⟩
    | bad r =>
      cases r with
      | nil => exact .inl ⟨by show (5 : Int) ≠ 0; decide, rfl, place_one s _⟩
      | cons t r =>
        have hm := hP.suf.subset List.mem_cons_self
        exact .inl ⟨by show (5 : Int) ≠ 0; decide, rfl, hl.2 t hm⟩
theorem parse_of {s : ByteArray} {p : ProgC} {l : List (ByteArray × Ex)} (h1 : (lexZ s).err = 0) (h2 : (lexZ s).toks.map st = progQ p.ins p.outs l) (h : RightP p l) : parseZ s = ⟨p, 0, 0, 0⟩ := by
  have hp := progQ_prg h.ins.1 h.ins.2.1 h.ok h.outs.1 h.outs.2.1
  rw [← h.lets, ← h.all] at hp
  unfold parseZ
  rw [h1, if_neg (by decide), prgZ_ok_st h2 hp]
  unfold parseT
  dsimp only
  rw [if_pos (by rw [tZ_right h]; rfl)]
def s12 : ByteArray := ⟨#[105, 110, 32, 120, 59, 32, 108, 101, 116, 32, 97, 61, 40, 50, 42, 120, 41, 94, 50, 45, 40, 49, 45, 120, 41, 59, 32, 111, 117, 116, 32, 97, 59]⟩
def m12 : Ex := .bin 4 (.num 2) (.ref awX)
def x12 : Ex := .bin 3 (.pow m12 2) (.bin 3 (.num 1) (.ref awX))
def p12 : ProgC := ⟨[awX], (laid [(awA, x12)] 0).1, [awA], (laid [(awA, x12)] 0).2⟩
theorem dec1 : decS 1 = ⟨#[49]⟩ := by
  have h : digs 1 = [49] := by rw [digs, dif_pos (by decide)]
  unfold decS decL; rw [h]; rfl
theorem dec2 : decS 2 = ⟨#[50]⟩ := by
  have h : digs 2 = [50] := by rw [digs, dif_pos (by decide)]
  unfold decS decL; rw [h]; rfl
theorem rat1 : ratS 1 = ⟨#[49]⟩ := by
  unfold ratS; rw [if_pos (show (1 : Rat).den = 1 from rfl)]; exact dec1
theorem rat2 : ratS 2 = ⟨#[50]⟩ := by
  unfold ratS; rw [if_pos (show (2 : Rat).den = 1 from rfl)]; exact dec2
theorem ok_num {n : Nat} (h : n ≤ 9) : (Ex.num (n : Rat)).ok := by
  have e : digs n = [48 + n] := by rw [digs, dif_pos (by omega)]
  have e1 : digs 1 = [49] := by rw [digs, dif_pos (by decide)]
  refine ⟨?_, ?_, ?_⟩
  · show (0 : Int) ≤ ((n : Int) : Int); omega
  · show (digs ((n : Int).natAbs)).length ≤ 40; rw [Int.natAbs_natCast, e]; show 1 ≤ 40; decide
  · show (digs 1).length ≤ 40; rw [e1]; decide
theorem ok12 : x12.ok := ⟨by decide, by decide, ⟨⟨by decide, by decide, ok_num (n := 2) (by decide), nameZ_X⟩, by decide, by decide⟩, by decide, by decide, ok_num (n := 1) (by decide), nameZ_X⟩
theorem right12 : RightP p12 [(awA, x12)] where
  lets := rfl
  all := rfl
  ok := fun a ha => by rw [List.mem_singleton.1 ha]; exact ⟨nameZ_A, ok12⟩
  ins := ⟨fun s hs => by rw [List.mem_singleton.1 hs]; exact nameZ_X, by decide, by decide⟩
  outs := ⟨fun s hs => by rw [List.mem_singleton.1 hs]; exact nameZ_A, by decide, by decide⟩
  few := ⟨by decide, by decide⟩
  low := fun a ha => by rw [List.mem_singleton.1 ha]; decide
theorem sh12 : shP x12 = [tk 2 lpar, tk 1 (ratS 2), gp, tk 2 starS, gp, tk 0 awX, tk 2 rpar, tk 2 Go.Tw.caret, tk 1 (decS 2), gp, tk 2 minusS, gp, tk 2 lpar, tk 1 (ratS 1), gp, tk 2 minusS, gp, tk 0 awX, tk 2 rpar] := rfl
theorem toks12 : progQ p12.ins p12.outs [(awA, x12)] = [tk 0 inS, tk 0 awX, tk 2 semiS, tk 0 letS, tk 0 awA, tk 2 equalS, tk 2 lpar, tk 1 ⟨#[50]⟩, tk 2 starS, tk 0 awX, tk 2 rpar, tk 2 Go.Tw.caret, tk 1 ⟨#[50]⟩, tk 2 minusS, tk 2 lpar, tk 1 ⟨#[49]⟩, tk 2 minusS, tk 0 awX, tk 2 rpar, tk 2 semiS, tk 0 outS, tk 0 awA, tk 2 semiS] := by
  unfold progQ letsQ letQ
  rw [sh12, rat1, rat2, dec2]
  rfl
theorem parse12 : parseZ s12 = ⟨p12, 0, 0, 0⟩ := parse_of (by kernel_rfl) (by rw [toks12]; kernel_rfl) right12
def d12 : ByteArray := ⟨#[105, 110, 32, 120, 59, 10, 108, 101, 116, 32, 97, 32, 61, 32, 40, 50, 32, 42, 32, 120, 41, 94, 50, 32, 45, 32, 40, 49, 32, 45, 32, 120, 41, 59, 10, 111, 117, 116, 32, 97, 59, 10]⟩
theorem text12 : textZ p12 [(awA, x12)] = d12 := by
  unfold textZ progP letsP letP
  rw [sh12, rat1, rat2, dec2]
  kernel_rfl
theorem print12 : PrintS p12 d12 := .inl ⟨_, right12, text12.symm⟩
theorem expr12 : ExprS p12 2 ⟨#[50, 32, 42, 32, 120]⟩ := by
  refine .inl ⟨by rw [tZ_right right12]; rfl, by decide, by decide, m12, ⟨⟨by decide, by decide, ok_num (n := 2) (by decide), nameZ_X⟩, 0, ?_, rfl⟩, by decide, ?_⟩
  · intro j c h
    rw [Nat.zero_add]
    have hj : j < 3 := (List.getElem?_eq_some_iff.1 h).1
    rcases (show j = 0 ∨ j = 1 ∨ j = 2 by omega) with rfl | rfl | rfl <;> exact h
  · have e : shP m12 = [tk 1 (ratS 2), gp, tk 2 starS, gp, tk 0 awX] := rfl
    rw [e, rat2]
    rfl
theorem awake12_any {I : Hp} (hT : Tabs I) (hM : Mx I) (hE : Errs I) (hP : P10 I) : Fun Tryz.prog 20 [] I [] (fun v _ _ => v = .bool true) := by
  have hpa := parse_any s12 hT hM hE (by decide)
  rw [parse12] at hpa
  intro w hw
  refine enter0 _ Tryz.func20 rfl Tryz.ntmps20 ?_ hw;refine sR ?_;refine oV ?_;refine nS ?_;refine oI Tryz.call27 rfl hpa ?_;rintro _ I1 hx1 ⟨vi, vl, vo, va, ns, rfl, hp, hf⟩;refine oV ?_
  have hp : ProgV I1 vi vl vo va p12 ns := hp
  have hsi := hp.si
  have hsl := hp.sl
  have hso := hp.so
  have hsa := hp.sa
  have hf' : ∀ o ∈ ns, o.c.few 3000 := fun o ho => ⟨Nat.le_trans (hf o ho).1 (by decide), Nat.le_trans (hf o ho).2 (by decide)⟩
  have hnl : ns.length ≤ 1000 := by
    have h9 : ns.length = p12.all.length := by rw [← hp.eq, List.length_map]
    rw [h9]; decide
  have h1 := showPrint_any vi vl vo va p12 ns d12 hp hf' hnl (hP.le hx1.le) print12
  have h2 := showExpr_any vi vl vo va p12 ns 2 ⟨#[50, 32, 42, 32, 120]⟩ hp hf' hnl (hP.le hx1.le) expr12
  iterate 3 refine oV ?_
  refine o_alloc trivial rfl Tryz.zeroValue26 rfl (fun b1 => ?_);refine o_alloc trivial rfl Tryz.zeroValue48 rfl (fun b2 => ?_);refine oS Tryz.sizeOf26 ?_;refine oS Tryz.sizeOf48 ?_;refine oV ?_;refine nS ?_;iterate 2 refine oV ?_
  refine' o_and trivial trivial rfl rfl rfl rfl rfl rfl rfl rfl (fun hb11 => ?_) ?_;rotate_left
  ·
   have fb11 := hb11
   try simp only [bl] at fb11
   refine o_loadA (wS rfl rfl hb11) rfl Tryz.isAgg26 Tryz.sizeOf26 rfl (by repeat constructor) (by repeat constructor) ?_;refine o_callQ (wS rfl rfl hb11) rfl Tryz.call23 rfl h1 ?_;refine gV hb11 ?_;refine oN ?_;exact joins rfl
  refine' o_and trivial trivial rfl rfl rfl rfl rfl rfl rfl rfl (fun hb16 => ?_) ?_;rotate_left
  ·
   have fb16 := hb16
   try simp only [bl] at fb16
   refine o_loadA (wS rfl rfl hb16) rfl Tryz.isAgg26 Tryz.sizeOf26 rfl (by repeat constructor) (by repeat constructor) ?_;refine o_callQ (wS rfl rfl hb16) rfl Tryz.call25 rfl h2 ?_;refine gV hb16 ?_;refine oN ?_;exact joins rfl
  refine oV ?_;refine nE ?_;refine ret1 rfl rfl ?_;refine leaf hx1 (List.nil_sublist _) (congrArg Value.bool ?_); kernel_rfl
theorem back_any {p : ProgC} {l : List (ByteArray × Ex)} (h : RightP p l) {I : Hp} (hT : Tabs I) (hM : Mx I) (hE : Errs I) : Fun Tryz.prog 27 [.string (textZ p l)] I [] (fun v I' _ => ParseV ⟨p, 0, 0, 0⟩ v I') := by
  have h1 := text_size h
  have h2 := h.few.2
  have h3 := parse_any (textZ p l) hT hM hE (by omega)
  rw [show_parse h] at h3
  exact h3
theorem nodes_len {I : Hp} {vi vl vo va : Value} {p : ProgC} {ns : List NodeV} (hp : ProgV I vi vl vo va p ns) {l : List (ByteArray × Ex)} (h : RightP p l) : ns.length ≤ 1000 := by
  have h1 : ns.length = p.all.length := by rw [← hp.eq, List.length_map]
  have := h.few.2
  omega
theorem few5 {ns : List NodeV} (h : ∀ o ∈ ns, o.c.few 5) : ∀ o ∈ ns, o.c.few 3000 := fun o ho => ⟨Nat.le_trans (h o ho).1 (by decide), Nat.le_trans (h o ho).2 (by decide)⟩
theorem ShowAgain_any (s : ByteArray) {I : Hp} (hT : Tabs I) (hM : Mx I) (hE : Errs I) (hP : P10 I) : Fun Tryz.prog 7 [.string s] I [] (fun v _ _ => v = .bool true) := by
  have hcs := parseZ_cases s
  intro w hw
  refine enter1 _ Tryz.func7 rfl Tryz.ntmps7 rfl ?_ hw;refine sR ?_;refine oV ?_;refine nS ?_;refine oQ Tryz.call20 rfl (awake12_any hT hM hE hP) ?_;refine oV ?_;refine nU ?_;refine oV ?_;refine o_lenS trivial rfl Tryz.underlying9 rfl ?_;refine oV ?_;refine nT ?_;refine cC rfl (fun h1 => ?_) (fun h1 => ?_)
  ·
   have f1 := h1;try simp only [bl] at f1
   refine sR ?_;iterate 2 refine oV ?_
   refine nF ?_;refine ret1 rfl rfl ?_;exact leaf0 rfl
  have f1 := h1;try simp only [bl] at f1
  refine kS ?_;refine oV ?_;refine oI Tryz.call27 rfl (parse_any s hT hM hE (by omega)) ?_;rintro _ I1 hx1 ⟨vi, vl, vo, va, ns, rfl, hp, hf⟩;refine oV ?_
  have hsi := hp.si
  have hsl := hp.sl
  have hso := hp.so
  have hsa := hp.sa
  iterate 3 refine oV ?_
  refine o_alloc trivial rfl Tryz.zeroValue26 rfl (fun b4 => ?_);refine o_alloc trivial rfl Tryz.zeroValue48 rfl (fun b5 => ?_);refine oS Tryz.sizeOf26 ?_;refine oS Tryz.sizeOf48 ?_;refine oV ?_;refine nU ?_;iterate 2 refine oV ?_
  refine nT ?_;refine cC rfl (fun h2 => ?_) (fun h2 => ?_)
  ·
   have f2 := h2;try simp only [bl] at f2
   obtain ⟨hpn, hnn⟩ : (parseZ s).p = noP ∧ ns.length ≤ 1000 := by
     rcases hcs with ⟨_, e, _⟩ | ⟨e, _⟩
     · refine ⟨e, ?_⟩
       have h9 : ns.length = (parseZ s).p.all.length := by rw [← hp.eq, List.length_map]
       rw [h9, e]; decide
     · exact absurd e f2
   have hps : PrintS (parseZ s).p ⟨#[]⟩ := .inr ⟨by rw [hpn]; rfl, rfl⟩
   refine sR ?_;refine oV ?_;refine' o_and trivial trivial rfl rfl rfl rfl rfl rfl rfl rfl (fun hb25 => ?_) ?_;rotate_left
   ·
    have fb25 := hb25
    try simp only [bl] at fb25
    refine o_loadA (wS rfl rfl hb25) rfl Tryz.isAgg26 Tryz.sizeOf26 rfl (by repeat constructor) (by repeat constructor) ?_;refine o_callQ (wS rfl rfl hb25) rfl Tryz.call23 rfl (showPrint_any vi vl vo va (parseZ s).p ns _ hp (few5 hf) hnn (hP.le hx1.le) hps) ?_;refine gV hb25 ?_;refine oN ?_;exact joins rfl
   refine oV ?_;refine nF ?_;refine ret1 rfl rfl ?_;refine leaf hx1 (List.nil_sublist _) (congrArg Value.bool ?_); simp
  have f2 := h2;try simp only [bl] at f2
  obtain ⟨l, hl⟩ : ∃ l, RightP (parseZ s).p l := by
    rcases hcs with ⟨e, _⟩ | ⟨_, _, _, e⟩
    · exact absurd f2 e
    · exact e
  have hnn := nodes_len hp hl
  refine kS ?_;refine oA Tryz.isAgg26 Tryz.sizeOf26 ?_;refine oQ Tryz.call23 rfl (showPrint_any vi vl vo va (parseZ s).p ns _ hp (few5 hf) hnn (hP.le hx1.le) (.inl ⟨l, hl, rfl⟩)) ?_;refine oV ?_;refine nS ?_;refine oV ?_;refine oI Tryz.call27 rfl (back_any hl (hT.le hx1.le) (hM.le hx1.le) (hE.le hx1.le)) ?_;rintro _ I2 hx2 ⟨ui, ul, uo, ua, ms, rfl, hq, hg⟩;refine oV ?_
  have hq : ProgV I2 ui ul uo ua (parseZ s).p ms := hq
  have hti := hq.si
  have htl := hq.sl
  have hto := hq.so
  have hta := hq.sa
  have hp1 := hp.le hx2.le
  have hss := rrSame_any vi vl vo va ui ul uo ua (parseZ s).p ns ms hp1 hq
  iterate 3 refine oV ?_
  refine o_alloc trivial rfl Tryz.zeroValue26 rfl (fun b8 => ?_);refine o_alloc trivial rfl Tryz.zeroValue48 rfl (fun b9 => ?_);refine oS Tryz.sizeOf26 ?_;refine oS Tryz.sizeOf48 ?_;refine oV ?_;refine nS ?_;refine oV ?_;refine' o_and trivial trivial rfl rfl rfl rfl rfl rfl rfl rfl (fun hb39 => ?_) ?_;rotate_left
  ·
   iterate 2 refine gV hb39 ?_
   refine oN ?_;exact joins rfl
  refine' o_and trivial trivial rfl rfl rfl rfl rfl rfl rfl rfl (fun hb43 => ?_) ?_;rotate_left
  ·
   have fb43 := hb43
   try simp only [bl] at fb43
   iterate 2 refine o_loadA (wS rfl rfl hb43) rfl Tryz.isAgg26 Tryz.sizeOf26 rfl (by repeat constructor) (by repeat constructor) ?_
   refine o_callQ (wS rfl rfl hb43) rfl Tryz.call28 rfl hss ?_;refine oN ?_;exact joins rfl
  refine' o_and trivial trivial rfl rfl rfl rfl rfl rfl rfl rfl (fun hb48 => ?_) ?_;rotate_left
  ·
   have fb48 := hb48
   try simp only [bl] at fb48
   refine o_loadA (wS rfl rfl hb48) rfl Tryz.isAgg26 Tryz.sizeOf26 rfl (by repeat constructor) (by repeat constructor) ?_;refine o_callQ (wS rfl rfl hb48) rfl Tryz.call23 rfl (showPrint_any ui ul uo ua (parseZ s).p ms _ hq (few5 hg) (nodes_len hq hl) ((hP.le hx1.le).le hx2.le) (.inl ⟨l, hl, rfl⟩)) ?_;iterate 2 refine gV hb48 ?_
   refine oN ?_;exact joins rfl
  refine oV ?_;refine nE ?_;refine ret1 rfl rfl ?_;refine leaf (hx1.trans hx2 (Nat.le_refl _)) (List.nil_sublist _) (congrArg Value.bool ?_); simp
end Go.Proofs.YtfcmhcaggdakbaaGreatDoor
namespace Go.Tw
open Go Go.RowKit Go.ChangeShapes Go.WideShapes Go.ChangeAt Go.Deep
section
variable {base : Nat} {H : Type} {enc : TypeId × Value → H} {P : Program} {W : World} {t e : TypeId} {v : Value} {cs : List Value} {d : DataW H} {ps : List MemPlace}
end
end Go.Tw
namespace Go.Proofs.YtfcmhcaggdakbaaGreatDoor
open Go Go.Tw Go.ChangeShapes Go.WideShapes Go.ChangeAt
set_option maxRecDepth 100000
section
variable {base : Nat} {H : Type} {enc : TypeId × Value → H} {W : World} {v : Value} {cs : List Value} {d : DataW H} {ps : List MemPlace}
end
end Go.Proofs.YtfcmhcaggdakbaaGreatDoor
