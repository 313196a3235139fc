/-
  TapeLowers, part 5: the texts Ref8, RefP, RefR, RefL, RefL2, RefL3, RefL4, RefL5, RefL6, Tree9, RefH, Ref8b, RefB, RefW, RefH2, Law11, RefW2, Scope, Scope2, Scope3, Ref13, Scope4, Ref13b, Law13, Law09, Ren, More, LowerP, Ref14, Ref14b, Ref15, Bound, Law15, Made14, Made14b, Lower, SameG as one.
-/
import Derived.Test.YtfcmhcaggdakbaaGreatDoorQTapeLowersD
open Go.Proofs.Tryz
set_option linter.unusedVariables false
set_option linter.unusedSimpArgs false
set_option linter.unnecessarySimpa false
set_option maxHeartbeats 1000000
namespace Go.Proofs.YtfcmhcaggdakbaaGreatDoor
open Go Go.Tw
theorem q3l : natW 1 = [1] := by rw [qbi (by decide),show 1 / 4294967296 = 0 from rfl,yg]
theorem qsj (neg : Bool) (va vb : Value) (A B : List Nat) {I : Hp} (ha : Ws I va A) (hb : Ws I vb B) (hs : A.length ≤ 3000) (hs2 : B.length ≤ 3000) : Fun prog 106 [.agg #[.bool neg,va],vb] I [] (fun v I' _ => RatV I' v (lowQ neg (val A) (val B))) := by
 intro w hw
 refine qz _ func106 rfl ntmps106 rfl ?_ hw;refine sR ?_;refine vh trivial rfl rfl rfl (fun b2 => ?_);refine qq trivial rfl zeroValue35 rfl (fun b4 => ?_);refine nS ?_;refine oF 1 underlying132 sizeOf33 ?_;refine oL isAgg33 ?_;refine oV ?_;refine oI call142 rfl (q3h _ _ _ _ ha hb hs hs2) ?_;rintro _ I1 hx1 ⟨u1,u2,rfl,hs1⟩;iterate 7 refine oV ?_
 refine nU ?_;iterate 2 refine oV ?_
 refine' oZ (fun hb18 => ?_) ?_;rotate_left
 ·
  have fb18 := hb18
  try simp only [bl] at fb18
  have hB : val B ≠ 0 := by simpa using hb18
  obtain ⟨hu1,hu2⟩ := hs1 hB
  refine gV hb18 ?_;refine ve (wS rfl rfl hb18) rfl underlying33 rfl (hu1) ?_;refine gV hb18 ?_;refine oN ?_;exact qa rfl
 refine nT ?_;refine cC rfl (fun h1 => ?_) (fun h1 => ?_)
 ·
  have f1 := h1;try simp only [bl] at f1
  have h0 : val B = 0 ∨ val A = 0 := by
    rcases f1 with f1 | f1
    · exact .inl (Decidable.not_not.1 f1)
    · by_cases hB : val B = 0
      · exact .inl hB
      · exact .inr (qo2 (jk.1 (by omega)) hB)
  refine sR ?_;refine oB underlying33 sizeOf134 zeroValue134 fun b23 => ?_;refine qby [1] .here (zc (by decide) zj) (by unfold maxLen; simp) (fun I2 hx2 hs2' => ?_);refine qw trivial rfl (qbk) rfl (.cons rfl (by exact (Ws.cells1 (by assumption)).1) (by rfl) (by repeat constructor) .nil) ?_;refine oS sizeOf35 ?_;refine nF ?_;refine retR rfl (.agg isAgg35 sizeOf35 rfl (by repeat constructor) rfl .nil) ?_;refine leaf (hx1.trans hx2 (Nat.le_refl _)) (List.nil_sublist _) ?_
  rw [qhi h0]; exact RatV.zero (by rw [q3l]; exact hs2')
 have f1 := h1;try simp only [bl] at f1
 have hB : val B ≠ 0 := fun e => f1.1 e
 obtain ⟨hu1,hu2⟩ := hs1 hB
 have hA : val A ≠ 0 := fun e => f1.2 (by rw [e,Nat.zero_div,yg]; rfl)
 obtain ⟨e1,e2,e3⟩ := qfv (neg := neg) hA hB
 refine kS ?_;refine oF 0 underlying132 sizeOf4 ?_;refine oL isAgg4 ?_;iterate 2 refine oV ?_
 refine qw trivial rfl (qbk) rfl (.cons rfl rfl rfl (by repeat constructor) (.cons rfl (by exact (Ws.cells1 (by assumption)).1) (by rfl) (by repeat constructor) (.cons rfl (by exact (Ws.cells1 (by assumption)).1) (by rfl) (by repeat constructor) .nil))) ?_;refine oS sizeOf35 ?_;refine nE ?_;refine retR rfl (.agg isAgg35 sizeOf35 rfl (by repeat constructor) rfl .nil) ?_;refine leaf hx1 (List.nil_sublist _) ⟨u1,u2,?_,?_,?_⟩
 · rw [e3]; rfl
 · rw [e1]; exact hu1
 · rw [e2]; exact hu2
theorem q3m (neg : Bool) (va vb : Value) (A B : List Nat) {I : Hp} (ha : Ws I va A) (hb : Ws I vb B) (hs : A.length ≤ 3000) (hs2 : B.length ≤ 3000) : Fun prog 83 [.agg #[.bool neg,va,vb]] I [] (fun v I' _ => RatV I' v (lowQ neg (val A) (val B))) := by
 intro w hw
 refine qn _ func83 rfl ntmps83 rfl ?_ hw;refine sR ?_;refine vh trivial rfl rfl rfl (fun b1 => ?_);refine qq trivial rfl zeroValue35 rfl (fun b2 => ?_);refine nS ?_;refine oF 0 underlying35 sizeOf4 ?_;refine oL isAgg4 ?_;refine oF 1 underlying35 sizeOf33 ?_;refine oL isAgg33 ?_;refine qw trivial rfl (qdc) rfl (.cons rfl rfl rfl (by repeat constructor) (.cons rfl (by exact (Ws.cells1 (by assumption)).1) (by rfl) (by repeat constructor) .nil)) ?_;refine oF 2 underlying35 sizeOf33 ?_;refine oL isAgg33 ?_;refine oI call106 rfl (qsj neg _ _ _ _ ha hb hs hs2) ?_;rintro _ I1 hx1 ⟨u1,u2,rfl,h1,h2⟩;refine oS sizeOf35 ?_;refine nE ?_;refine retR rfl (.agg isAgg35 sizeOf35 rfl (by repeat constructor) rfl .nil) ?_;exact leaf hx1 (List.nil_sublist _) ⟨u1,u2,rfl,h1,h2⟩
theorem qgl (s1 s2 : Bool) (va vb vc vd : Value) (A B C D : List Nat) {I : Hp} (ha : Ws I va A) (hb : Ws I vb B) (hc : Ws I vc C) (hd : Ws I vd D) : Fun prog 67 [.agg #[.bool s1,va,vb],.agg #[.bool s2,vc,vd]] I [] (fun v _ _ => v = .bool (decide (s1 = s2) && decide (A = C) && decide (B = D))) := by
 intro w hw
 refine qz _ func67 rfl ntmps67 rfl ?_ hw;refine sR ?_;refine vh trivial rfl rfl rfl (fun b2 => ?_);refine vh trivial rfl rfl rfl (fun b3 => ?_);refine oV ?_;refine nS ?_;refine oF 0 underlying35 sizeOf4 ?_;refine oL isAgg4 ?_;refine oF 0 underlying35 sizeOf4 ?_;refine oL isAgg4 ?_;refine qwb trivial rfl rfl rfl underlying4 ?_;refine' oY (fun hb10 => ?_) ?_;rotate_left
 ·
  have fb10 := hb10
  try simp only [bl] at fb10
  refine gF hb10 1 underlying35 sizeOf33 ?_;refine gL hb10 isAgg33 ?_;refine gF hb10 1 underlying35 sizeOf33 ?_;refine gL hb10 isAgg33 ?_;refine yd (wS rfl rfl hb10) rfl call85 rfl (qse _ _ _ _ ha hc) ?_;refine oN ?_;exact qa rfl
 refine' oY (fun hb17 => ?_) ?_;rotate_left
 ·
  have fb17 := hb17
  try simp only [bl] at fb17
  refine gF hb17 2 underlying35 sizeOf33 ?_;refine gL hb17 isAgg33 ?_;refine gF hb17 2 underlying35 sizeOf33 ?_;refine gL hb17 isAgg33 ?_;refine yd (wS rfl rfl hb17) rfl call85 rfl (qse _ _ _ _ hb hd) ?_;refine oN ?_;exact qa rfl
 refine oV ?_;refine nE ?_;refine ret1 rfl rfl ?_;refine qe (congrArg Value.bool ?_)
 congr 2
theorem qsk (neg : Bool) (va vb : Value) (A B : List Nat) {I : Hp} (ha : Ws I va A) (hb : Ws I vb B) (hs : A.length ≤ 3000) (hs2 : B.length ≤ 3000) : Fun prog 77 [.agg #[.bool neg,va,vb]] I [] (fun v _ _ => v = .bool (qbm neg A B)) := by
 intro w hw
 refine qn _ func77 rfl ntmps77 rfl ?_ hw;refine sR ?_;refine vh trivial rfl rfl rfl (fun b1 => ?_);refine oV ?_;refine oN (tC (cS ?_));refine zu (m := 5) [.box b1 _] (by repeat constructor) (by kernel_rfl) rfl ?_;refine qT (i := 0) (qB 5 1) (Hp.Le.refl _) rfl rfl (oA isAgg35 sizeOf35 qF) ?_;refine qT (i := 2) (qB 5 5) (Hp.Le.refl _) rfl rfl (oA isAgg35 sizeOf35 qF) ?_;refine qO (i := 1) (qB 5 7) rfl ?_;refine oI call83 rfl (q3m neg _ _ _ _ ha hb hs hs2) ?_;rintro _ I1 hx1 ⟨u1,u2,rfl,h1,h2⟩;refine qM (hx1.le) ?_;refine qO (i := 3) (qB 5 15) rfl ?_;refine oQ call67 rfl (qgl _ neg _ _ _ _ _ _ A B h1 h2 (ha.le hx1.le) (hb.le hx1.le)) ?_;refine qM (hx1.le) ?_;refine qT (i := 4) (qB 5 31) (hx1.le) rfl rfl (oV qF) ?_;refine jc (by kernel_rfl) ?_;refine tC (cT ?_);refine ret1 rfl rfl ?_;refine leaf hx1 (List.nil_sublist _) (congrArg Value.bool ?_)
 unfold qbm
 rw [Bool.eq_iff_iff]
 simp only [Bool.and_eq_true,decide_eq_true_eq]
 constructor <;> (rintro ⟨⟨k1,k2⟩,k3⟩; exact ⟨⟨k1.symm,k2.symm⟩,k3.symm⟩)
theorem qsl : val [1] = 1 := by rw [zw,qd4]
theorem q3n (n : Int) {I : Hp} (hn : -1000000 ≤ n ∧ n ≤ 1000000) : Fun prog 63 [.int .i64 n] I [] (fun v I' _ => RatV I' v (mkRat n 1)) := by
 have hl : (natW n.natAbs).length ≤ 3000 := qbz (k := 1) (by rw [Nat.pow_one]; omega) (by decide)
 intro w hw
 refine qn _ func63 rfl ntmps63 rfl ?_ hw;refine sR ?_;refine qq trivial rfl zeroValue35 rfl (fun b2 => ?_);refine nS ?_;refine oV ?_;refine oI call107 rfl (q3k n hn) ?_;rintro _ I1 hx1 ⟨u1,rfl,hs1⟩;refine oB underlying33 sizeOf134 zeroValue134 fun b5 => ?_;refine qby [1] .here (zc (by decide) zj) (by unfold maxLen; simp) (fun I2 hx2 hs2 => ?_);refine oI call106 rfl (qsj (decide (n < 0)) _ _ _ _ (hs1.le hx2.le) hs2 hl (by simp)) ?_;rintro _ I3 hx3 ⟨u3,u4,rfl,h3,h4⟩;refine oS sizeOf35 ?_;refine nE ?_;refine retR rfl (.agg isAgg35 sizeOf35 rfl (by repeat constructor) rfl .nil) ?_
 rw [qk,qsl,qfw] at h3 h4
 refine leaf (hx1.trans (hx2.trans hx3 (Nat.le_refl _)) (Nat.le_refl _)) (List.nil_sublist _) ⟨u3,u4,?_,h3,h4⟩
 rw [qk,qsl,qfw]; rfl
def isR (bad : Bool) (L : List Tok) (i : Nat) (k : Int) (s : ByteArray) : Bool := !bad && hdT (L.drop i) k s
theorem add_none {L : List Tok} {j : Nat} (h : (isR false L j 2 zk || isR false L j 2 vf) = false) : hdK addK (L.drop j) = none := by
 unfold isR at h
 simp only [Bool.not_false,Bool.true_and,Bool.or_eq_false_iff] at h
 cases hr : L.drop j with
 | nil => rfl
 | cons x r =>
   rw [hr] at h
   simp only [hdT] at h
   show addK x = none
   unfold addK
   rw [h.1,h.2]; rfl
def LowN (l : List NodeC) : Prop := ∀ (i : Nat) (c : NodeC),l[i]? = some c → 1 < c.kind → 0 ≤ c.a ∧ c.a < i ∧ (c.kind ≤ 5 → 0 ≤ c.b ∧ c.b < i)
theorem q3o : ∀ (x : Ex) (b j : Nat) (c : NodeC),x.ok → (x.nd b)[j]? = some c → 1 < c.kind → (b : Int) ≤ c.a ∧ c.a < (b + j : Nat) ∧ (c.kind ≤ 5 → (b : Int) ≤ c.b ∧ c.b < (b + j : Nat)) := by
 intro x
 have last : ∀ {u : List NodeC} {c0 c : NodeC} {j : Nat},(u ++ [c0])[j]? = some c → ¬ j < u.length → j = u.length ∧ c = c0 := by
   intro u c0 c j h hj
   rw [List.getElem?_append_right (by omega)] at h
   have := (List.getElem?_eq_some_iff.1 h)
   obtain ⟨h1,h2⟩ := this
   simp at h1 h2
   exact ⟨by omega,h2.symm⟩
 induction x with
 | ref t =>
   intro b j c _ h hk
   have : c = refN t := by
     obtain ⟨h1,h2⟩ := List.getElem?_eq_some_iff.1 h
     simp [Ex.nd] at h2; exact h2.symm
   subst this
   exact absurd hk (by simp [refN])
 | num q =>
   intro b j c _ h hk
   have : c = numN q := by
     obtain ⟨h1,h2⟩ := List.getElem?_eq_some_iff.1 h
     simp [Ex.nd] at h2; exact h2.symm
   subst this
   exact absurd hk (by simp [numN])
 | neg x ih =>
   intro b j c hok h hk
   have hp := x.n_pos
   have hl := x.nd_len b
   by_cases hj : j < (x.nd b).length
   · simp only [Ex.nd] at h
     rw [List.getElem?_append_left hj] at h
     exact ih b j c hok h hk
   · obtain ⟨e1, e2⟩ := last h hj
     subst e2
     refine ⟨?_,?_,?_⟩
     · show (b : Int) ≤ (b : Int) + x.n - 1; omega
     · show (b : Int) + x.n - 1 < _; omega
     · intro h5; exact absurd h5 (by show ¬ (6 : Int) ≤ 5; decide)
 | pow x e ih =>
   intro b j c hok h hk
   have hp := x.n_pos
   have hl := x.nd_len b
   by_cases hj : j < (x.nd b).length
   · simp only [Ex.nd] at h
     rw [List.getElem?_append_left hj] at h
     exact ih b j c hok.1 h hk
   · obtain ⟨e1, e2⟩ := last h hj
     subst e2
     refine ⟨?_,?_,?_⟩
     · show (b : Int) ≤ (b : Int) + x.n - 1; omega
     · show (b : Int) + x.n - 1 < _; omega
     · intro h5; exact absurd h5 (by show ¬ (7 : Int) ≤ 5; decide)
 | bin k x y ih1 ih2 =>
   intro b j c hok h hk
   have hp := x.n_pos
   have hp2 := y.n_pos
   have hl := x.nd_len b
   have hl2 := y.nd_len (b + x.n)
   by_cases hj : j < (x.nd b ++ y.nd (b + x.n)).length
   · simp only [Ex.nd] at h
     rw [List.getElem?_append_left hj] at h
     by_cases hx : j < (x.nd b).length
     · rw [List.getElem?_append_left hx] at h
       exact ih1 b j c hok.2.2.1 h hk
     · rw [List.getElem?_append_right (by omega)] at h
       have := ih2 (b + x.n) _ c hok.2.2.2 h hk
       refine ⟨by omega,by omega,fun h5 => ?_⟩
       have := this.2.2 h5
       omega
   · obtain ⟨e1, e2⟩ := last h hj
     rw [List.length_append] at e1
     subst e2
     refine ⟨?_,?_,fun _ => ⟨?_,?_⟩⟩
     · show (b : Int) ≤ (b : Int) + x.n - 1; omega
     · show (b : Int) + x.n - 1 < _; omega
     · show (b : Int) ≤ (b : Int) + x.n + y.n - 1; omega
     · show (b : Int) + x.n + y.n - 1 < _; omega
theorem qsm : ∀ (l : List (ByteArray × Ex)) (b j : Nat) (c : NodeC), jv l → (laid l b).2[j]? = some c → 1 < c.kind → (b : Int) ≤ c.a ∧ c.a < (b + j : Nat) ∧ (c.kind ≤ 5 → (b : Int) ≤ c.b ∧ c.b < (b + j : Nat))
 | [],_,_,_,_,h,_ => by cases h
 | (s, x) :: l, b, j, c, hok, h, hk => by
   simp only [laid] at h
   have hl := x.nd_len b
   by_cases hx : j < (x.nd b).length
   · rw [List.getElem?_append_left hx] at h
     exact q3o x b j c (hok (s,x) (by simp)).2 h hk
   · rw [List.getElem?_append_right (by omega)] at h
     have := qsm l (b + x.n) _ c (fun a ha => hok a (by simp [ha])) h hk
     refine ⟨by omega,by omega,fun h5 => ?_⟩
     have := this.2.2 h5
     omega
theorem qsn {p : qv} {l : List (ByteArray × Ex)} (h : Shaped p l) : LowN p.all := fun i c hc hk => by
 rw [h.all] at hc
 have := qsm l 0 i c h.ok hc hk
 refine ⟨by omega,by omega,fun h5 => ?_⟩
 have := this.2.2 h5
 omega
theorem qso {l : List NodeC} (h : LowN l) : ∀ (i f g : Nat),i < f → i < g → vz l f i = vz l g i := by
 intro i
 induction i using Nat.strongRecOn with
 | ind i ih =>
   intro f g hf hg
   obtain ⟨f,rfl⟩ : ∃ k,f = k + 1 := ⟨f - 1,by omega⟩
   obtain ⟨g,rfl⟩ : ∃ k,g = k + 1 := ⟨g - 1,by omega⟩
   unfold vz
   rw [Int.toNat_natCast]
   cases hc : l[i]? with
   | none => rfl
   | some c =>
     dsimp only
     by_cases h1 : c.kind ≤ 1
     · rw [if_pos h1,if_pos h1]
     · obtain ⟨a1, a2, a3⟩ := h i c hc (by omega)
       have ea : c.a = (c.a.toNat : Int) := by omega
       rw [if_neg h1,if_neg h1]
       by_cases h5 : c.kind ≤ 5
       · obtain ⟨b1, b2⟩ := a3 h5
         have eb : c.b = (c.b.toNat : Int) := by omega
         rw [if_pos h5,if_pos h5,ea,eb,ih c.a.toNat (by omega) f g (by omega) (by omega),ih c.b.toNat (by omega) f g (by omega) (by omega)]
       · rw [if_neg h5,if_neg h5,ea,ih c.a.toNat (by omega) f g (by omega) (by omega)]
theorem qsp {l : List NodeC} (h : LowN l) : ∀ (i f : Nat),i < f → vz l f i ≤ i + 1 := by
 intro i
 induction i using Nat.strongRecOn with
 | ind i ih =>
   intro f hf
   obtain ⟨f,rfl⟩ : ∃ k,f = k + 1 := ⟨f - 1,by omega⟩
   unfold vz
   rw [Int.toNat_natCast]
   cases hc : l[i]? with
   | none => exact Nat.zero_le _
   | some c =>
     dsimp only
     by_cases h1 : c.kind ≤ 1
     · rw [if_pos h1]; omega
     · obtain ⟨a1, a2, a3⟩ := h i c hc (by omega)
       have ea : c.a = (c.a.toNat : Int) := by omega
       have := ih c.a.toNat (by omega) f (by omega)
       rw [if_neg h1]
       by_cases h5 : c.kind ≤ 5
       · obtain ⟨b1, b2⟩ := a3 h5
         have eb : c.b = (c.b.toNat : Int) := by omega
         have := ih c.b.toNat (by omega) f (by omega)
         rw [if_pos h5,ea,eb]
         omega
       · rw [if_neg h5,ea]; omega
def y7 (l : List NodeC) : List Nat := (List.range l.length).map fun (i : Nat) => vz l l.length (i : Int)
theorem ql9 (l : List NodeC) : (y7 l).length = l.length := by simp [y7]
theorem qsq (all : List NodeC) : ∀ (l : List (ByteArray × Ex)) (b f : Nat), jv l → (∀ j c, (laid l b).2[j]? = some c → all[b + j]? = some c) → b + (laid l b).2.length ≤ f → ∀ j, j < (laid l b).2.length → some (vz all f ((b + j : Nat) : Int)) = (jo l)[j]?
 | [],b,f,_,_,_,j,hj => by cases hj
 | (s, x) :: l, b, f, hok, h, hf, j, hj => by
   have hx := (hok (s,x) (by simp)).2
   have hl := x.nd_len b
   simp only [laid] at h hf hj
   rw [List.length_append,hl] at hf hj
   have hA : At all b x := At.left h (u := x.nd b) rfl
   have hR := At.right h (u := x.nd b) rfl
   rw [hl] at hR
   have e : jo ((s,x) :: l) = x.hs ++ jo l := by simp [jo]
   rw [e]
   by_cases hjx : j < x.n
   · rw [List.getElem?_append_left (by rw [x.hs_len]; exact hjx)]
     exact qzu x hx hA (by omega) j hjx
   · rw [List.getElem?_append_right (by rw [x.hs_len]; omega), x.hs_len]
     have := qsq all l (b + x.n) f (fun a ha => hok a (by simp [ha])) hR (by omega) (j - x.n) (by omega)
     rw [← this,show b + x.n + (j - x.n) = b + j by omega]
theorem qsr {p : qv} {l : List (ByteArray × Ex)} (h : Shaped p l) : y7 p.all = jo l := by
 have hlen : p.all.length = (jo l).length := by rw [h.all,qh3]
 apply List.ext_getElem?
 intro j
 by_cases hj : j < p.all.length
 · have := qsq p.all l 0 p.all.length h.ok (fun j c hc => by rw [h.all, Nat.zero_add]; exact hc) (by rw [h.all]; omega) j (by rw [← h.all]; exact hj)
   rw [Nat.zero_add] at this
   rw [← this]
   simp [y7,hj]
 · rw [List.getElem?_eq_none (by rw [ql9]; omega),List.getElem?_eq_none (by omega)]
def qdw (p : qv) : Bool := decide (400 < p.all.length) || decide (40 < p.ins.length) || decide (40 < p.lets.length) || decide (40 < p.outs.length) || (y7 p.all).any fun h => decide (60 < h)
theorem qss {p : qv} {l : List (ByteArray × Ex)} (h : Shaped p l) (hi : qat p.ins ∧ 1 ≤ p.ins.length) (ho : qat p.outs ∧ 1 ≤ p.outs.length) : (tZ p).isSome = !qdw p := by
 have hlets : p.lets.length = l.length := by rw [h.lets,qdn]
 rw [Bool.eq_iff_iff,qex,Bool.not_eq_true']
 unfold qdw
 simp only [Bool.or_eq_false_iff,decide_eq_false_iff_not,List.any_eq_false,decide_eq_true_eq]
 constructor
 · rintro ⟨l', hr⟩
   have hl' : p.lets.length = l'.length := by rw [hr.lets,qdn]
   refine ⟨⟨⟨⟨by have := hr.few.2; omega,by have := hr.ins.2.2; omega⟩,by have := hr.few.1; omega⟩,by have := hr.outs.2.2; omega⟩,fun k hk => ?_⟩
   rw [qsr hr.toShaped] at hk
   have := qh2.2 hr.low k hk
   omega
 · rintro ⟨⟨⟨⟨c1, c2⟩, c3⟩, c4⟩, c5⟩
   refine ⟨l,⟨h,⟨hi.1,hi.2,by omega⟩,⟨ho.1,ho.2,by omega⟩,⟨by omega,by omega⟩,?_⟩⟩;refine qh2.1 fun k hk => ?_
   rw [← qsr h] at hk
   have := c5 k hk
   omega
theorem q3p (va : Value) (ns : List qd) {I : Hp} (hsa : Slc I 8 va (nds ns)) (hok : ∀ o ∈ ns,o.ok I) (hlow : LowN (ns.map qd.c)) (hn : ns.length ≤ 100000) : ∀ i : Nat,i < ns.length → Fun prog 121 [va,.int .i64 (i : Nat)] I [] (fun v _ _ => v = .int .i64 ((vz (ns.map qd.c) (ns.length) (i : Int) : Nat) : Int)) := by
 intro i
 have hln := zl ns
 induction i using Nat.strongRecOn with
 | ind i ih =>
   intro hi
   obtain ⟨o,ho⟩ : ∃ o,ns[i]? = some o := ⟨ns[i]'hi,List.getElem?_eq_getElem hi⟩
   have hoc : (ns.map qd.c)[i]? = some o.c := by rw [List.getElem?_map,ho]; rfl
   have hom := List.mem_of_getElem? ho
   have hw1 : Ws I o.vn o.c.n := (hok o hom).1
   have hw2 : Ws I o.vd o.c.d := (hok o hom).2
   have hlo := hlow i o.c hoc
   obtain ⟨f,hf⟩ : ∃ f,ns.length = f + 1 := ⟨ns.length - 1,by omega⟩
   have htz : vz (ns.map qd.c) ns.length (i : Int) = if o.c.kind ≤ 1 then 1 else if o.c.kind ≤ 5 then 1 + max (vz (ns.map qd.c) f o.c.a) (vz (ns.map qd.c) f o.c.b) else 1 + vz (ns.map qd.c) f o.c.a := by
     rw [hf]
     conv => lhs; unfold vz
     rw [Int.toNat_natCast,hoc]
   have hta : 1 < o.c.kind → vz (ns.map qd.c) f o.c.a = vz (ns.map qd.c) ns.length o.c.a := fun hk => by
     obtain ⟨a1,a2,_⟩ := hlo hk
     have ea : o.c.a = (o.c.a.toNat : Int) := by omega
     rw [ea]
     exact qso hlow _ _ _ (by omega) (by omega)
   have htb : 1 < o.c.kind → o.c.kind ≤ 5 → vz (ns.map qd.c) f o.c.b = vz (ns.map qd.c) ns.length o.c.b := fun hk h5 => by
     obtain ⟨a1,a2,a3⟩ := hlo hk
     obtain ⟨b1,b2⟩ := a3 h5
     have eb : o.c.b = (o.c.b.toNat : Int) := by omega
     rw [eb]
     exact qso hlow _ _ _ (by omega) (by omega)
   have hca : 1 < o.c.kind → (Fun prog 121 [va, .int .i64 o.c.a] I [] (fun v _ _ => v = .int .i64 ((vz (ns.map qd.c) (ns.length) o.c.a : Nat) : Int))) ∧ vz (ns.map qd.c) (ns.length) o.c.a ≤ 100000 := fun hk => by
     obtain ⟨a1,a2,_⟩ := hlo hk
     have ea : o.c.a = (o.c.a.toNat : Int) := by omega
     rw [ea]
     exact ⟨ih _ (by omega) (by omega),by have := qsp hlow o.c.a.toNat ns.length (by omega); omega⟩
   have hcb : 1 < o.c.kind → o.c.kind ≤ 5 → (Fun prog 121 [va, .int .i64 o.c.b] I [] (fun v _ _ => v = .int .i64 ((vz (ns.map qd.c) (ns.length) o.c.b : Nat) : Int))) ∧ vz (ns.map qd.c) (ns.length) o.c.b ≤ 100000 := fun hk h5 => by
     obtain ⟨a1,a2,a3⟩ := hlo hk
     obtain ⟨b1,b2⟩ := a3 h5
     have eb : o.c.b = (o.c.b.toNat : Int) := by omega
     rw [eb]
     exact ⟨ih _ (by omega) (by omega),by have := qsp hlow o.c.b.toNat ns.length (by omega); omega⟩
   intro w hw
   refine qz _ func121 rfl ntmps121 rfl ?_ hw;refine sR ?_;refine oV ?_;refine nS ?_;iterate 2 refine oV ?_
   refine vk trivial rfl underlying24 sizeOf37 rfl (hsa) rfl (by omega) ?_;refine jz trivial rfl isAgg37 sizeOf37 rfl rfl (qav hsa ho) ?_;refine qq trivial rfl zeroValue37 rfl (fun b5 => ?_);refine oS sizeOf37 ?_;refine oN (tC (cS (cB (sR ?_))));refine oF 0 underlying37 sizeOf3 ?_;refine oL isAgg3 ?_;iterate 2 refine oV ?_
   refine nT ?_;refine cC rfl (fun h1 => ?_) (fun h1 => ?_)
   ·
    have f1 := h1;try simp only [bl] at f1
    refine sR ?_;refine oV ?_;refine oN (tC (cT (qb (tR ?_))));refine ret1 rfl rfl ?_;refine qe (congrArg (Value.int .i64) ?_); rw [htz,if_pos (by omega)]; rfl
   have f1 := h1;try simp only [bl] at f1
   obtain ⟨ca,cal⟩ := hca (by omega)
   refine sR ?_;refine oF 0 underlying37 sizeOf3 ?_;refine oL isAgg3 ?_;iterate 2 refine oV ?_
   refine nT ?_;refine cC rfl (fun h2 => ?_) (fun h2 => ?_)
   ·
    have f2 := h2;try simp only [bl] at f2
    obtain ⟨cb,cbl⟩ := hcb (by omega) (by omega)
    refine cS ?_;refine jf (by kernel_rfl) (by kernel_rfl) (fun _ h => h.drawn) ?_;refine oV ?_;refine oF 1 underlying37 sizeOf3 ?_;refine oL isAgg3 ?_;refine oQ call121 rfl ca ?_;refine oV ?_;refine oF 2 underlying37 sizeOf3 ?_;refine oL isAgg3 ?_;refine oQ call121 rfl cb ?_;refine qbf trivial rfl rfl rfl ?_
    (refine qh trivial rfl rfl rfl ?_ ?_; (omega))
    refine oV ?_;refine oN (tC (cT (qb (tR ?_))));refine ret1 rfl rfl ?_;refine qe (congrArg (Value.int .i64) ?_); rw [htz,if_neg (by omega),if_pos (by omega),hta (by omega),htb (by omega) (by omega)]; omega
   have f2 := h2;try simp only [bl] at f2
   refine cK (qg (tC (sR ?_)));refine oV ?_;refine oF 1 underlying37 sizeOf3 ?_;refine oL isAgg3 ?_;refine oQ call121 rfl ca ?_
   (refine qh trivial rfl rfl rfl ?_ ?_; (omega))
   refine oV ?_;refine nE ?_;refine ret1 rfl rfl ?_;refine qe (congrArg (Value.int .i64) ?_); rw [htz,if_neg (by omega),if_neg (by omega),hta (by omega)]; omega
theorem q3q (vi vl vo va : Value) (p : qv) (ns : List qd) {I : Hp} (hp : yi I vi vl vo va p ns) (hlow : LowN p.all) (hn : ns.length ≤ 100000) :
   Fun prog 82 [.agg #[vi,vl,vo,va]] I [] (fun v I' _ => Slc I' 1 v (nss (y7 p.all))) := by
 have hsi := hp.si
 have hsl := hp.sl
 have hso := hp.so
 have hsa := hp.sa
 have hla := zl ns
 have hal : p.all.length = ns.length := by rw [← hp.eq,List.length_map]
 rw [← hp.eq] at hlow
 have hhz := ql9 p.all
 have hget : ∀ i, i < ns.length → (y7 p.all)[i]? = some (vz (ns.map qd.c) ns.length (i : Int)) := fun i hi => by
   unfold y7
   rw [List.getElem?_map,List.getElem?_range (by omega),hp.eq,hal]; rfl
 intro w hw
 refine qn _ func82 rfl ntmps82 rfl ?_ hw;refine sR ?_;refine vh trivial rfl rfl rfl (fun b1 => ?_);refine oV ?_;refine nS ?_;refine oV ?_;refine nU ?_;refine oV ?_;refine oN (tC (cB ?_));refine qt (ι := Nat × Value) [1] (.cons rfl .nil) (fun x => ns.length - x.1) (fun x E0 => (3,x.2) :: (4,.int .i64 (x.1 : Int)) :: E0) (fun x => St w [] I [.row x.2 3 1 x.1 (nvs ((y7 p.all).take x.1)),.box b1 (.cells #[vi,vl,vo,va] 26 (0,0))]) (fun x => x.1 ≤ ns.length) ((0,.slice none 0 0)) (sC rfl (sC rfl (sC rfl sN))) (fun _ h => (h.nilRow _ _).sort (by repeat constructor)) (Nat.zero_le _) ?_;rintro ⟨i,uo⟩ hi
 try dsimp only
 simp only at hi
 refine cS (sR ?_);refine oV ?_;refine oF 3 underlying26 sizeOf24 ?_;refine oL isAgg24 ?_;refine qu trivial rfl underlying24 rfl (hsa) ?_;refine oV ?_;refine nT ?_;refine cC rfl (fun h1 => ?_) (fun h1 => ?_)
 ·
  have f1 := h1;try simp only [bl] at f1
  have hg := hget i (by omega)
  refine cK (tC (cS (cB (cR ?_))));refine oV ?_;refine oF 3 underlying26 sizeOf24 ?_;refine oL isAgg24 ?_;refine oV ?_;refine oQ call121 rfl (q3p va ns hsa hp.ok hlow hn i (by omega)) ?_;refine oB underlying52 sizeOf3 zeroValue3 fun b17 => ?_;refine oD underlying52 zd fun v18 => ?_;refine oV ?_;refine oN (qg (tC (cR ?_)));refine oV ?_
  (refine qh trivial rfl rfl rfl ?_ ?_; (omega))
  refine oV ?_;refine oN ?_;exact ql (i + 1,v18) (sC rfl (sC rfl (sC rfl sN))) (fun _ h => by rw [List.take_add_one,hg,show nvs ((y7 p.all).take i ++ (some (vz (ns.map qd.c) ns.length (i : Int))).toList) = nvs ((y7 p.all).take i) ++ [.int .i64 ((vz (ns.map qd.c) ns.length (i : Int) : Nat) : Int)] by simp [nvs]]; exact h.sort (by repeat constructor)) (by show ns.length - (i + 1) < ns.length - i; omega) (by show i + 1 ≤ _; omega)
 have f1 := h1;try simp only [bl] at f1
 refine qp (qc (qc (qo rfl (tC (sR ?_)))));iterate 2 refine oV ?_
 refine nE ?_;refine ret1 rfl rfl ?_
 have hin : i = ns.length := by omega
 subst hin
 exact fun w' hw' => qgz (e := 3) (size := 1) (nn := ns.length) (u := uo) (xss := nss (y7 p.all)) (by rw [qa6,hhz,hal]) (qf7 _) (by unfold maxLen; omega) (fun I' hl hs' => hs') w' (by rw [qh5]; rw [List.take_of_length_le (by omega)] at hw'; exact hw')
theorem q3r (vi vl vo va : Value) (p : qv) (ns : List qd) {I : Hp} (hp : yi I vi vl vo va p ns) (hlow : LowN p.all) (hn : ns.length ≤ 100000) :
   Fun prog 48 [.agg #[vi,vl,vo,va]] I [] (fun v _ _ => v = .bool (qdw p)) := by
 have hsi := hp.si
 have hsl := hp.sl
 have hso := hp.so
 have hsa := hp.sa
 have hli := jq p.ins
 have hlo := jq p.outs
 have hll : (p.lets.map LetC.cells).length = p.lets.length := List.length_map _
 have hla := zl ns
 have hal : p.all.length = ns.length := by rw [← hp.eq,List.length_map]
 have hhz := ql9 p.all
 have hnl := qa6 (y7 p.all)
 intro w hw
 refine qn _ func48 rfl ntmps48 rfl ?_ hw;refine sR ?_;refine vh trivial rfl rfl rfl (fun b1 => ?_);refine oV ?_;refine nU ?_;refine oF 3 underlying26 sizeOf24 ?_;refine oL isAgg24 ?_;refine qu trivial rfl underlying24 rfl (hsa) ?_;refine oV ?_;refine' oZ (fun hb9 => ?_) ?_;rotate_left
 ·
  have fb9 := hb9
  try simp only [bl] at fb9
  refine gF hb9 0 underlying26 sizeOf22 ?_;refine gL hb9 isAgg22 ?_;refine qu (wS rfl rfl hb9) rfl underlying22 rfl (hsi) ?_;refine gV hb9 ?_;refine oN ?_;exact qa rfl
 refine' oZ (fun hb15 => ?_) ?_;rotate_left
 ·
  have fb15 := hb15
  try simp only [bl] at fb15
  refine gF hb15 1 underlying26 sizeOf23 ?_;refine gL hb15 isAgg23 ?_;refine qu (wS rfl rfl hb15) rfl underlying23 rfl (hsl) ?_;refine gV hb15 ?_;refine oN ?_;exact qa rfl
 refine' oZ (fun hb21 => ?_) ?_;rotate_left
 ·
  have fb21 := hb21
  try simp only [bl] at fb21
  refine gF hb21 2 underlying26 sizeOf22 ?_;refine gL hb21 isAgg22 ?_;refine qu (wS rfl rfl hb21) rfl underlying22 rfl (hso) ?_;refine gV hb21 ?_;refine oN ?_;exact qa rfl
 refine nT ?_;refine cC rfl (fun h1 => ?_) (fun h1 => ?_)
 ·
  have f1 := h1;try simp only [bl] at f1
  refine sR ?_;refine oV ?_;refine nF ?_;refine ret1 rfl rfl ?_;refine qe (congrArg Value.bool ?_)
  unfold qdw
  simp at h1
  simp
  omega
 have f1 := h1;try simp only [bl] at f1
 have hno : ¬ 400 < p.all.length ∧ ¬ 40 < p.ins.length ∧ ¬ 40 < p.lets.length ∧ ¬ 40 < p.outs.length := by
   simp at h1
   omega
 refine kS ?_;refine oA isAgg26 sizeOf26 ?_;refine oI call82 rfl (q3q vi vl vo va p ns hp hlow hn) ?_;rintro v28 I2 hx2 hs2;refine oV ?_;refine nU ?_;refine oV ?_;refine oN (tC (cB ?_));refine qt (ι := Nat) [3] (.cons rfl .nil) (fun x => (y7 p.all).length - x) (fun x E0 => (4,.int .i64 (x : Int)) :: E0) (fun x => St w [] I2 [.box b1 (.cells #[vi,vl,vo,va] 26 (0,0))]) (fun x => x ≤ (y7 p.all).length ∧ (y7 p.all).any (fun h => decide (60 < h)) = ((y7 p.all).drop x).any (fun h => decide (60 < h))) (0) (sC rfl (sC rfl sN)) (fun _ h => h) (⟨Nat.zero_le _,rfl⟩) ?_;rintro i ⟨hi,hF⟩
 try dsimp only
 refine cS (sR ?_);iterate 2 refine oV ?_
 refine qu trivial rfl underlying52 rfl (hs2) ?_;refine oV ?_;refine nT ?_;refine cC rfl (fun h2 => ?_) (fun h2 => ?_)
 ·
  have f2 := h2;try simp only [bl] at f2
  obtain ⟨k,hk⟩ : ∃ k,(y7 p.all)[i]? = some k := ⟨(y7 p.all)[i]'(by omega),List.getElem?_eq_getElem (by omega)⟩
  have hst : ((y7 p.all).drop i).any (fun h => decide (60 < h)) = (decide (60 < k) || ((y7 p.all).drop (i + 1)).any (fun h => decide (60 < h))) := by
    rw [List.drop_eq_getElem_cons (List.getElem?_eq_some_iff.1 hk).1,List.any_cons,(List.getElem?_eq_some_iff.1 hk).2]
  refine cK (tC (cS (cB (sR ?_))));iterate 2 refine oV ?_
  refine vk trivial rfl underlying52 sizeOf3 rfl (hs2) rfl (by omega) ?_;refine q7 trivial rfl isAgg3 rfl (qh6 hs2 hk) ?_;refine oV ?_;refine nT ?_;refine cC rfl (fun h3 => ?_) (fun h3 => ?_)
  ·
   have f3 := h3;try simp only [bl] at f3
   refine sR ?_;refine oV ?_;refine oN (tC (cT (qb (tR (tR (qb (tR ?_)))))));refine ret1 rfl rfl ?_;refine leaf hx2 (List.nil_sublist _) (congrArg Value.bool ?_)
   unfold qdw
   rw [hF,hst,decide_eq_true (show 60 < k by omega)]
   simp
  have f3 := h3;try simp only [bl] at f3
  refine cK (qg (tC (cR ?_)));refine oV ?_
  (refine qh trivial rfl rfl rfl ?_ ?_; (omega))
  refine oV ?_;refine oN ?_;exact ql (i + 1) (sC rfl (sC rfl sN)) (fun _ h => h) (by show (y7 p.all).length - (i + 1) < (y7 p.all).length - i; omega) ⟨by show i + 1 ≤ _; omega,by rw [hF,hst,decide_eq_false (show ¬ 60 < k by omega)]; rfl⟩
 have f2 := h2;try simp only [bl] at f2
 refine qp (qc (qc (qo rfl (tC (sR ?_)))));refine oV ?_;refine nE ?_;refine ret1 rfl rfl ?_;refine leaf hx2 (List.nil_sublist _) (congrArg Value.bool ?_)
 rw [List.drop_eq_nil_of_le (by omega)] at hF
 unfold qdw
 rw [hF]
 simp
 omega
end Go.Proofs.YtfcmhcaggdakbaaGreatDoor
namespace Go.Tw
open Go
theorem qst {q : Rat} (h : q ≠ 0) : (q⁻¹).num.natAbs = q.den := by
 have hn : q.num ≠ 0 := fun e => h (Rat.num_eq_zero.1 e)
 rw [Rat.num_inv,Int.natAbs_mul,Int.natAbs_natCast]
 rcases Int.lt_or_gt_of_ne hn with h1 | h1
 · rw [Int.sign_eq_neg_one_of_neg h1]; simp
 · rw [Int.sign_eq_one_of_pos h1]; simp
theorem qsu {q : Rat} (h : q ≠ 0) : (q⁻¹).den = q.num.natAbs := by
 have hn : q.num ≠ 0 := fun e => h (Rat.num_eq_zero.1 e)
 rw [Rat.den_inv,if_neg hn]
theorem Few.inv {k : Nat} {q : Rat} (h : Few k q) (h0 : q ≠ 0) : Few k q⁻¹ := ⟨by rw [qst h0]; exact h.den,by rw [qsu h0]; exact h.num⟩
theorem Few.pow {k : Nat} {q : Rat} (h : Few k q) (m : Nat) : Few (k * m + 1) (q ^ m) := by
 have key : ∀ a : Nat, a < 4294967296 ^ k → a ^ m < 4294967296 ^ (k * m + 1) := fun a ha => by
   have h2 : a ^ m ≤ (4294967296 ^ k) ^ m := Nat.pow_le_pow_left (Nat.le_of_lt ha) m
   rw [← Nat.pow_mul] at h2
   exact Nat.lt_of_le_of_lt h2 (Nat.pow_lt_pow_right (by decide) (Nat.lt_succ_self _))
 exact ⟨by rw [Rat.num_pow,Int.natAbs_pow]; exact key _ h.num,by rw [Rat.den_pow]; exact key _ h.den⟩
def powX (q : Rat) (n : Int) : Rat := if n < 0 then q⁻¹ else q
theorem q3s (q : Rat) (n : Int) : powX q n ^ n.natAbs = q ^ n := by
 unfold powX
 by_cases h : n < 0
 · rw [if_pos h]
   have e : n = -((n.natAbs : Nat) : Int) := by omega
   conv => rhs; rw [e]
   rw [Rat.zpow_neg,Rat.zpow_natCast]
   generalize n.natAbs = k
   induction k with
   | zero => rw [Rat.pow_zero,Rat.pow_zero]; exact (Rat.inv_eq_of_mul_eq_one (Rat.mul_one 1)).symm
   | succ k ih => rw [Rat.pow_succ,Rat.pow_succ,ih,Rat.inv_mul_rev,Rat.mul_comm]
 · rw [if_neg h]
   have e : n = ((n.natAbs : Nat) : Int) := by omega
   conv => rhs; rw [e]
   rw [Rat.zpow_natCast]
theorem RV.at_ {I : Hp} {v : Value} {rs : List RV} (h : Slc I 3 v (rcs rs)) {i : Nat} {r : RV} (hr : rs[i]? = some r) : ∀ k y, ([.bool (decide (r.q.num < 0)), r.vn, r.vd] : List Value)[k]? = some y → I.cell? ⟨slcB v, slcO v + i * 3 + k, none⟩ = some y :=
 h.cells i _ (by unfold rcs; rw [List.getElem?_map,hr]; rfl)
end Go.Tw
namespace Go.Proofs.YtfcmhcaggdakbaaGreatDoor
open Go Go.Tw
theorem q3t (vx : Value) (xs : List NV) (k : Int) {I : Hp} (h : PtV I vx xs) : Fun prog 40 [vx,.int .i64 k] I [] (fun v _ _ => v = .bool (xs.all fun x => decide ((x.n.length : Int) ≤ k ∧ (x.d.length : Int) ≤ k))) := by
 have hl1 : (xs.map NV.cells).length = xs.length := List.length_map _
 have hs1 := h.s
 have hm1 := hs1.most
 unfold maxLen at hm1
 intro w hw
 refine qz _ func40 rfl ntmps40 rfl ?_ hw;refine sR ?_;refine oV ?_;refine nU ?_;refine oV ?_;refine oN (tC (cB ?_));refine qt (ι := Nat) [0,1] (.cons rfl (.cons rfl .nil)) (fun i => xs.length - i) (fun i E0 => (5,.int .i64 (i : Nat)) :: E0) (fun i => St w [] I []) (fun i => i ≤ xs.length ∧ ((xs.take i).all fun x => decide ((x.n.length : Int) ≤ k ∧ (x.d.length : Int) ≤ k)) = true) (0) (sC rfl (sC rfl (sC rfl sN))) (fun _ h => h) (⟨Nat.zero_le _,rfl⟩) ?_;rintro i ⟨hi,he⟩
 try dsimp only
 refine cS (sR ?_);iterate 2 refine oV ?_
 refine qu trivial rfl underlying72 rfl (hs1) ?_;refine oV ?_;refine nT ?_;refine cC rfl (fun h1 => ?_) (fun h1 => ?_)
 ·
  have f1 := h1;try simp only [bl] at f1
  have hi1 : i < xs.length := by omega
  obtain ⟨x,hx⟩ : ∃ x,xs[i]? = some x := ⟨xs[i],List.getElem?_eq_getElem hi1⟩
  obtain ⟨hxn,hxd⟩ := h.ok x (List.mem_of_getElem? hx)
  refine cK (tC (cS (cB (sR ?_))));iterate 2 refine oV ?_
  refine vk trivial rfl underlying72 sizeOf35 rfl (hs1) rfl (by omega) ?_;refine oF 1 underlying35 sizeOf33 ?_;refine q7 trivial rfl isAgg33 rfl (NV.at_ h hx 1 _ rfl) ?_;refine ve trivial rfl underlying33 rfl (hxn) ?_;iterate 2 refine oV ?_
  refine' oZ (fun hb20 => ?_) ?_;rotate_left
  ·
   have fb20 := hb20
   try simp only [bl] at fb20
   iterate 2 refine gV hb20 ?_
   refine vk (wS rfl rfl hb20) rfl underlying72 sizeOf35 rfl (hs1) rfl (by omega) ?_;refine gF hb20 2 underlying35 sizeOf33 ?_;refine q7 (wS rfl rfl hb20) rfl isAgg33 rfl (NV.at_ h hx 2 _ rfl) ?_;refine ve (wS rfl rfl hb20) rfl underlying33 rfl (hxd) ?_;iterate 2 refine gV hb20 ?_
   refine oN ?_;exact qa rfl
  refine nT ?_;refine cC rfl (fun h2 => ?_) (fun h2 => ?_)
  ·
   have f2 := h2;try simp only [bl] at f2
   refine sR ?_;refine oV ?_;refine oN (tC (cT (qb (tR (tR (qb (tR ?_)))))));refine ret1 rfl rfl ?_;refine qe (congrArg Value.bool ?_)
   symm
   rw [List.all_eq_false]
   exact ⟨x,List.mem_of_getElem? hx,by simp; omega⟩
  have f2 := h2;try simp only [bl] at f2
  refine cK (qg (tC (cR ?_)));refine oV ?_
  (refine qh trivial rfl rfl rfl ?_ ?_; (omega))
  refine oV ?_;refine oN ?_;exact ql (i + 1) (sC rfl (sC rfl (sC rfl sN))) (fun _ h => h) (by show xs.length - (i + 1) < xs.length - i; omega) ⟨by show i + 1 ≤ _; omega,by rw [List.take_add_one,hx,List.all_append,he]; simp; omega⟩
 have f1 := h1;try simp only [bl] at f1
 refine qp (qc (qc (qo rfl (tC (sR ?_)))));refine oV ?_;refine nE ?_;refine ret1 rfl rfl ?_;refine qe (congrArg Value.bool ?_)
 rw [List.take_of_length_le (by omega)] at he
 exact he.symm
theorem q3u (va : Value) (A : List Nat) (m : Nat) {I : Hp} (ha : Ws I va A) (hs : A.length ≤ 35184372088400) (hm : m ≤ 10000000000000000) (hr : (natW (val A * 2 ^ min m 100000)).length ≤ 35184372088400) : Fun prog 202 [va,.int .i64 (m : Int)] I [] (fun v I' _ => Ws I' v (natW (val A * 2 ^ min m 100000))) := by
 have hA := jj ha.wds
 intro w hw
 refine qz _ func202 rfl ntmps202 rfl ?_ hw;refine sR ?_;refine oV ?_;refine nS ?_;refine oV ?_;refine oI call115 rfl (qax _ _ ha (by omega)) ?_;rintro u1 I1 hx1 hs1;refine oV ?_;refine nU ?_;refine oV ?_;refine oN (tC (cB ?_));refine qt (ι := Nat × Value × Hp) [1] (.cons rfl .nil) (fun x => m - x.1) (fun x E0 => (5,x.2.1) :: (6,.int .i64 (x.1 : Nat)) :: E0) (fun x => St w [] x.2.2 []) (fun x => x.1 ≤ min m 100000 ∧ Ws x.2.2 x.2.1 (natW (val A * 2 ^ x.1)) ∧ Ext w.heap.size I x.2.2) ((0,u1,I1)) (sC rfl (sC rfl (sC rfl sN))) (fun _ h => h) (⟨Nat.zero_le _,by show Ws I1 u1 (natW (val A * 1)); rw [Nat.mul_one]; exact hs1,hx1⟩) ?_;rintro ⟨i,u,I2⟩ ⟨hi,hu,hx2⟩
 try dsimp only
 simp only at hi hu hx2
 refine cS (sR ?_);iterate 3 refine oV ?_
 refine' oY (fun hb12 => ?_) ?_;rotate_left
 ·
  iterate 2 refine gV hb12 ?_
  refine oN ?_;exact qa rfl
 refine' oY (fun hb16 => ?_) ?_;rotate_left
 ·
  have fb16 := hb16
  try simp only [bl] at fb16
  refine gV hb16 ?_;refine ve (wS rfl rfl hb16) rfl underlying33 rfl (hu) ?_;refine gV hb16 ?_;refine oN ?_;exact qa rfl
 refine nT ?_;refine cC rfl (fun h1 => ?_) (fun h1 => ?_)
 ·
  have f1 := h1;try simp only [bl] at f1
  have hl1 : (natW (val A * 2 ^ i)).length ≤ 35184372088400 := Nat.le_trans (jl (Nat.mul_le_mul_left _ (Nat.pow_le_pow_right (by decide) hi))) hr
  refine cK (tC (cS (cB (cR ?_))));refine oV ?_;refine oI call177 rfl (qgj _ _ 2 0 hu (by omega) (by decide) (by decide)) ?_;rintro u3 I3 hx3 hs3;refine oV ?_;refine oN (qg (tC (cR ?_)));refine oV ?_
  (refine qh trivial rfl rfl rfl ?_ ?_; (omega))
  refine oV ?_;refine oN ?_
  rw [qk,Nat.add_zero,Nat.mul_assoc,← Nat.pow_succ] at hs3
  exact ql (i + 1,u3,I3) (sC rfl (sC rfl (sC rfl sN))) (fun _ h => h) (by show m - (i + 1) < m - i; omega) ⟨by show i + 1 ≤ _; omega,hs3,hx2.trans hx3 (Nat.le_refl _)⟩
 have f1 := h1;try simp only [bl] at f1
 refine qp (qc (qc (qo rfl (tC (sR ?_)))));iterate 2 refine oV ?_
 refine nE ?_;refine ret1 rfl rfl ?_;refine leaf hx2 (List.nil_sublist _) ?_
 by_cases him : i = min m 100000
 · rw [← him]; exact hu
 · have h0 : val A * 2 ^ i = 0 := jk.1 (by omega)
   have hp : 0 < 2 ^ i := Nat.pow_pos (by decide)
   have h1 : val A = 0 := by
     rcases Nat.mul_eq_zero.1 h0 with h | h
     · exact h
     · omega
   rw [h1,Nat.zero_mul] at hu ⊢
   exact hu
theorem q3v (va vb : Value) (A B : List Nat) {I : Hp} (ha : Ws I va A) (hb : Ws I vb B) (hs : A.length ≤ 35184372088400) (hs2 : B.length ≤ 35184372088400) : Fun prog 174 [va,vb] I [] (fun v I' _ => ∃ g,Ws I' v (natW g) ∧ (natW g).length ≤ 35184372088400 ∧ (val B ≠ 0 → 0 < g)) := by
 have hal : (natW (val A)).length ≤ 35184372088400 := Nat.le_trans (zz ha.wds) hs
 have hbl : (natW (val B)).length ≤ 35184372088400 := Nat.le_trans (zz hb.wds) hs2
 intro w hw
 refine qz _ func174 rfl ntmps174 rfl ?_ hw;refine sR ?_;refine oV ?_;refine nS ?_;refine oV ?_;refine oI call115 rfl (qax _ _ ha (by omega)) ?_;rintro u1 I1 hx1 hs1;refine oV ?_;refine nS ?_;refine oV ?_;refine oI call115 rfl (qax _ _ (hb.le hx1.le) (by omega)) ?_;rintro u2 I2 hx2 hs2';refine oV ?_;refine nU ?_;refine oV ?_;refine ve trivial rfl underlying33 rfl (hs1.le hx2.le) ?_;refine oV ?_;refine nT ?_;refine cC rfl (fun h1 => ?_) (fun h1 => ?_)
 ·
  have f1 := h1;try simp only [bl] at f1
  refine sR ?_;iterate 2 refine oV ?_
  refine nF ?_;refine ret1 rfl rfl ?_
  have h0 : val A = 0 := jk.1 (by omega)
  exact leaf (hx1.trans hx2 (Nat.le_refl _)) (List.nil_sublist _) ⟨val B,hs2',hbl,fun h => Nat.pos_of_ne_zero h⟩
 have f1 := h1;try simp only [bl] at f1
 refine cK (tC (cS (sR ?_)));refine oV ?_;refine ve trivial rfl underlying33 rfl (hs2') ?_;refine oV ?_;refine nT ?_;refine cC rfl (fun h2 => ?_) (fun h2 => ?_)
 ·
  have f2 := h2;try simp only [bl] at f2
  refine sR ?_;iterate 2 refine oV ?_
  refine nF ?_;refine ret1 rfl rfl ?_
  have h0 : val B = 0 := jk.1 (by omega)
  exact leaf (hx1.trans hx2 (Nat.le_refl _)) (List.nil_sublist _) ⟨val A,hs1.le hx2.le,hal,fun h => absurd h0 h⟩
 have f2 := h2;try simp only [bl] at f2
 have hA0 : 0 < val A := Nat.pos_of_ne_zero fun e => f1 (by rw [e,yg]; rfl)
 have hB0 : 0 < val B := Nat.pos_of_ne_zero fun e => f2 (by rw [e,yg]; rfl)
 refine kS ?_;refine oV ?_;refine oI call201 rfl (qe9 _ _ (hs1.le hx2.le) (by omega) hA0) ?_;rintro _ I3 hx3 ⟨u3,x,n,rfl,hs3,ho3⟩;iterate 5 refine oV ?_
 refine oN (tC (cS ?_))
 have hn := ho3.pow_lt hal
 refine cR ?_;refine oV ?_;refine oI call201 rfl (qe9 _ _ (hs2'.le hx3.le) (by omega) hB0) ?_;rintro _ I4 hx4 ⟨u4,y,k,rfl,hs4,ho4⟩;iterate 5 refine oV ?_
 refine oN (tC (cS (cB ?_)));refine qt (ι := Nat × Nat × Value × Value × Hp) [7,8] (.cons rfl (.cons rfl .nil)) (fun t => t.1 + t.2.1) (fun t E0 => (5,t.2.2.1) :: (6,t.2.2.2.1) :: E0) (fun t => St w [] t.2.2.2.2 []) (fun t => t.1 % 2 = 1 ∧ t.2.1 % 2 = 1 ∧ Nat.gcd t.1 t.2.1 = Nat.gcd x y ∧ Ws t.2.2.2.2 t.2.2.1 (natW t.1) ∧ Ws t.2.2.2.2 t.2.2.2.1 (natW t.2.1) ∧ (natW t.1).length ≤ 35184372088400 ∧ (natW t.2.1).length ≤ 35184372088400 ∧ Ext w.heap.size I t.2.2.2.2) ((x,y,u3,u4,I4)) (sC rfl (sC rfl (sC rfl (sC rfl sN)))) (fun _ h => h) (⟨ho3.odd,ho4.odd,rfl,hs3.le hx4.le,hs4,Nat.le_trans (jl ho3.le) hal,Nat.le_trans (jl ho4.le) hbl,hx1.trans (hx2.trans (hx3.trans hx4 (Nat.le_refl _)) (Nat.le_refl _)) (Nat.le_refl _)⟩) ?_;rintro ⟨a,b,ua,ub,I5⟩ ⟨hao,hbo,hg,hua,hub,hla,hlb,hx5⟩
 try dsimp only
 simp only at hao hbo hg hua hub hla hlb hx5
 refine cS (sR ?_);iterate 2 refine oV ?_
 refine oQ call179 rfl (qe8 _ _ _ _ hua hub (by omega) (by omega)) ?_;refine oV ?_;refine nT ?_;refine cC rfl (fun h3 => ?_) (fun h3 => ?_)
 ·
  have f3 := h3;try simp only [bl] at f3
  rw [qk,qk] at f3
  have hab : a ≠ b := fun e => f3 (by rw [e]; exact qcn _)
  refine cK (tC (cB ?_));refine zh (ι := Nat × Nat × Value × Value) [7,8] (.cons rfl (.cons rfl .nil)) (fun t E0 => (5,t.2.2.1) :: (6,t.2.2.2) :: E0) (fun t => St w [] I5 []) (fun t => t.1 % 2 = 1 ∧ t.2.1 % 2 = 1 ∧ Nat.gcd t.1 t.2.1 = Nat.gcd x y ∧ Ws I5 t.2.2.1 (natW t.1) ∧ Ws I5 t.2.2.2 (natW t.2.1) ∧ (natW t.1).length ≤ 35184372088400 ∧ (natW t.2.1).length ≤ 35184372088400 ∧ t.2.1 < t.1 ∧ t.1 + t.2.1 = a + b) ?_ ?_
  ·
   refine sR ?_;iterate 2 refine oV ?_
   refine oQ call179 rfl (qe8 _ _ _ _ hua hub (by omega) (by omega)) ?_;refine oV ?_;refine nT ?_;refine cC rfl (fun h4 => ?_) (fun h4 => ?_)
   ·
    have f4 := h4;try simp only [bl] at f4
    rw [qk,qk] at f4
    have hlt : a < b := by unfold cmpZ at f4; split at f4 <;> (try split at f4) <;> omega
    refine sR ?_;iterate 2 refine oV ?_
    refine nS ?_;iterate 2 refine oV ?_
    refine nR ?_;iterate 2 refine oV ?_
    refine oN ?_
    (exact meet (b,a,ub,ua) (sC rfl (sC rfl (sC rfl (sC rfl sN)))) (fun _ h => h) ⟨hbo,hao,by rw [Nat.gcd_comm]; exact hg,hub,hua,hlb,hla,hlt,by show b + a = a + b; omega⟩)
   have f4 := h4;try simp only [bl] at f4
   rw [qk,qk] at f4
   have hlt : ¬ a < b := fun h => by rw [qcm (by omega)] at f4; omega
   refine cK ?_
   (exact meet (a,b,ua,ub) (sC rfl (sC rfl (sC rfl (sC rfl sN)))) (fun _ h => h) ⟨hao,hbo,hg,hua,hub,hla,hlb,by show b < a; omega,rfl⟩)
  rintro ⟨c,d,uc,ud⟩ ⟨hco,hdo,hg2,huc,hud,hlc,hld,hdc,hsum⟩
  try dsimp only
  refine cS ?_
  simp only at hco hdo hg2 huc hud hlc hld hdc hsum
  refine cR ?_;iterate 2 refine oV ?_
  refine oI call180 rfl (ql8 _ _ _ _ huc hud (by omega) (by omega) (by rw [qk,qk]; omega)) ?_;rintro _ I6 hx6 ⟨u6,rfl,hs6⟩;iterate 4 refine oV ?_
  refine nT ?_
  rw [qk,qk] at hs6
  have hl6 : (natW (c - d)).length ≤ 35184372088400 := Nat.le_trans (jl (Nat.sub_le _ _)) hlc
  refine cR ?_;refine oV ?_;refine oI call201 rfl (qe9 _ _ hs6 (by omega) (by omega)) ?_;rintro _ I7 hx7 ⟨u7,z,p,rfl,hs7,ho7⟩;iterate 4 refine oV ?_
  refine oN (qg ?_);exact ql (z,d,u7,ud,I7) (sC rfl (sC rfl (sC rfl (sC rfl sN)))) (fun _ h => h) (by show z + d < a + b; have := ho7.le; omega) ⟨ho7.odd,hdo,by show Nat.gcd z d = _; rw [qn3 hdo (by omega) ho7.eq]; exact hg2,hs7,hud.le (hx6.le.trans hx7.le),Nat.le_trans (jl ho7.le) hl6,hld,hx5.trans (hx6.trans hx7 (Nat.le_refl _)) (Nat.le_refl _)⟩
 have f3 := h3;try simp only [bl] at f3
 rw [qk,qk] at f3
 have hab : a = b := by have := qft f3; omega
 refine qp (qc (qc (qo rfl (tC (sR ?_)))));iterate 3 refine oV ?_
 refine qg2 trivial rfl rfl rfl ?_
 rw [show min (n : Int) (k : Int) = ((min n k : Nat) : Int) by omega]
 refine qi0 trivial rfl call202 rfl (q3u _ _ (min n k) hua hla (by omega) (by
 rw [qk]
 refine Nat.le_trans (jl ?_) hal
 have h1 : a ≤ x := by rw [← Nat.gcd_self a,show Nat.gcd a a = Nat.gcd a b by rw [← hab],hg]; exact Nat.gcd_le_left _ ho3.pos
 have h2 : 2 ^ min (min n k) 100000 ≤ 2 ^ n := Nat.pow_le_pow_right (by decide) (by omega)
 rw [ho3.eq,Nat.mul_comm (2 ^ n)]
 exact Nat.mul_le_mul h1 h2)) ?_
 rintro u8 I8 hx8 hs8;refine oV ?_;refine nE ?_;refine ret1 rfl rfl ?_
 rw [qk] at hs8
 refine leaf (hx5.trans hx8 (Nat.le_refl _)) (List.nil_sublist _) ⟨_,hs8,?_,fun _ => Nat.mul_pos (by omega) (Nat.pow_pos (by decide))⟩;refine Nat.le_trans (jl ?_) hal
 have h1 : a ≤ x := by rw [← Nat.gcd_self a,show Nat.gcd a a = Nat.gcd a b by rw [← hab],hg]; exact Nat.gcd_le_left _ ho3.pos
 have h2 : 2 ^ min (min n k) 100000 ≤ 2 ^ n := Nat.pow_le_pow_right (by decide) (by omega)
 rw [ho3.eq,Nat.mul_comm (2 ^ n)]
 exact Nat.mul_le_mul h1 h2
theorem q3w (va vb : Value) (A B : List Nat) {I : Hp} (ha : Ws I va A) (hb : Ws I vb B) (hs : A.length ≤ 35184372088400) (hs2 : B.length ≤ 35184372088400) : Fun prog 142 [va,vb] I [] (fun v I' _ => ∃ u1 u2 b N D,v = .tuple #[u1,u2,.bool b] ∧ Ws I' u1 N ∧ Ws I' u2 D) := by
 have hbl : (natW (val B)).length ≤ 35184372088400 := Nat.le_trans (zz hb.wds) hs2
 intro w hw
 refine qz _ func142 rfl ntmps142 rfl ?_ hw;refine sR ?_;iterate 3 refine oV ?_
 refine nS ?_;refine oV ?_;refine oI call115 rfl (qax _ _ hb (by omega)) ?_;rintro u1 I1 hx1 hs1;refine oV ?_;refine nU ?_;refine oV ?_;refine ve trivial rfl underlying33 rfl (hs1) ?_;refine oV ?_;refine nT ?_;refine cC rfl (fun h1 => ?_) (fun h1 => ?_)
 ·
  have f1 := h1;try simp only [bl] at f1
  refine sR ?_;iterate 3 refine oV ?_
  refine nF ?_;refine ret3 rfl rfl rfl rfl ?_;exact leaf hx1 (List.nil_sublist _) ⟨.slice none 0 0,.slice none 0 0,false,[],[],rfl,Ws.nil _,Ws.nil _⟩
 have f1 := h1;try simp only [bl] at f1
 have h0 : 0 < val B := Nat.pos_of_ne_zero fun e => f1 (by rw [e,yg]; rfl)
 refine kS ?_;iterate 2 refine oV ?_
 refine oI call174 rfl (q3v _ _ _ _ (ha.le hx1.le) hs1 hs (by omega)) ?_;rintro u2 I2 hx2 ⟨g,hs2',hgl,hg0⟩;refine oV ?_;refine oN (tC (cS ?_))
 have hg : 0 < g := hg0 (by rw [qk]; omega)
 refine cR ?_;iterate 2 refine oV ?_
 refine oI call148 rfl (qgk _ _ _ _ (ha.le (hx1.le.trans hx2.le)) hs2' (by omega) (by omega) (by rw [qk]; exact hg)) ?_;rintro _ I3 hx3 ⟨u3,u4,rfl,hq3,hr3⟩;iterate 7 refine oV ?_
 refine nS ?_;iterate 2 refine oV ?_
 refine oI call148 rfl (qgk _ _ _ _ (hs1.le (hx2.le.trans hx3.le)) (hs2'.le hx3.le) (by omega) (by omega) (by rw [qk]; exact hg)) ?_;rintro _ I4 hx4 ⟨u5,u6,rfl,hq5,hr5⟩;iterate 5 refine oV ?_
 refine nS ?_;iterate 5 refine oV ?_
 refine nE ?_;refine ret3 rfl rfl rfl rfl ?_;exact leaf (hx1.trans (hx2.trans (hx3.trans hx4 (Nat.le_refl _)) (Nat.le_refl _)) (Nat.le_refl _)) (List.nil_sublist _) ⟨u3,u5,true,_,_,rfl,hq3.le hx4.le,hq5⟩
def RatB (I : Hp) (v : Value) : Prop := ∃ s u1 u2 N D,v = .agg #[.bool s,u1,u2] ∧ Ws I u1 N ∧ Ws I u2 D
theorem q3x (neg : Bool) (va vb : Value) (A B : List Nat) {I : Hp} (ha : Ws I va A) (hb : Ws I vb B) (hs : A.length ≤ 35184372088400) (hs2 : B.length ≤ 35184372088400) : Fun prog 106 [.agg #[.bool neg,va],vb] I [] (fun v I' _ => RatB I' v) := by
 intro w hw
 refine qz _ func106 rfl ntmps106 rfl ?_ hw;refine sR ?_;refine vh trivial rfl rfl rfl (fun b2 => ?_);refine qq trivial rfl zeroValue35 rfl (fun b4 => ?_);refine nS ?_;refine oF 1 underlying132 sizeOf33 ?_;refine oL isAgg33 ?_;refine oV ?_;refine oI call142 rfl (q3w _ _ _ _ ha hb hs hs2) ?_;rintro _ I1 hx1 ⟨u1,u2,b,N,D,rfl,hu1,hu2⟩;iterate 7 refine oV ?_
 refine nU ?_;iterate 2 refine oV ?_
 refine' oZ (fun hb18 => ?_) ?_;rotate_left
 ·
  have fb18 := hb18
  try simp only [bl] at fb18
  refine gV hb18 ?_;refine ve (wS rfl rfl hb18) rfl underlying33 rfl (hu1) ?_;refine gV hb18 ?_;refine oN ?_;exact qa rfl
 refine nT ?_;refine cC rfl (fun h1 => ?_) (fun h1 => ?_)
 ·
  have f1 := h1;try simp only [bl] at f1
  refine sR ?_;refine oB underlying33 sizeOf134 zeroValue134 fun b23 => ?_;refine qby [1] .here (zc (by decide) zj) (by unfold maxLen; simp) (fun I2 hx2 hs2' => ?_);refine qw trivial rfl (qbk) rfl (.cons rfl (by exact (Ws.cells1 (by assumption)).1) (by rfl) (by repeat constructor) .nil) ?_;refine oS sizeOf35 ?_;refine nF ?_;refine retR rfl (.agg isAgg35 sizeOf35 rfl (by repeat constructor) rfl .nil) ?_;exact leaf (hx1.trans hx2 (Nat.le_refl _)) (List.nil_sublist _) ⟨false,_,_,[],[1],rfl,Ws.nil _,hs2'⟩
 have f1 := h1;try simp only [bl] at f1
 refine kS ?_;refine oF 0 underlying132 sizeOf4 ?_;refine oL isAgg4 ?_;iterate 2 refine oV ?_
 refine qw trivial rfl (qbk) rfl (.cons rfl rfl rfl (by repeat constructor) (.cons rfl (by exact (Ws.cells1 (by assumption)).1) (by rfl) (by repeat constructor) (.cons rfl (by exact (Ws.cells1 (by assumption)).1) (by rfl) (by repeat constructor) .nil))) ?_;refine oS sizeOf35 ?_;refine nE ?_;refine retR rfl (.agg isAgg35 sizeOf35 rfl (by repeat constructor) rfl .nil) ?_;exact leaf hx1 (List.nil_sublist _) ⟨neg,u1,u2,N,D,rfl,hu1,hu2⟩
theorem q3y (neg : Bool) (va vb : Value) (A B : List Nat) {I : Hp} (ha : Ws I va A) (hb : Ws I vb B) (hs : A.length ≤ 35184372088400) (hs2 : B.length ≤ 35184372088400) : Fun prog 83 [.agg #[.bool neg,va,vb]] I [] (fun v I' _ => RatB I' v) := by
 intro w hw
 refine qn _ func83 rfl ntmps83 rfl ?_ hw;refine sR ?_;refine vh trivial rfl rfl rfl (fun b1 => ?_);refine qq trivial rfl zeroValue35 rfl (fun b2 => ?_);refine nS ?_;refine oF 0 underlying35 sizeOf4 ?_;refine oL isAgg4 ?_;refine oF 1 underlying35 sizeOf33 ?_;refine oL isAgg33 ?_;refine qw trivial rfl (qdc) rfl (.cons rfl rfl rfl (by repeat constructor) (.cons rfl (by exact (Ws.cells1 (by assumption)).1) (by rfl) (by repeat constructor) .nil)) ?_;refine oF 2 underlying35 sizeOf33 ?_;refine oL isAgg33 ?_;refine oI call106 rfl (q3x neg _ _ _ _ ha hb hs hs2) ?_;rintro _ I1 hx1 ⟨s,u1,u2,N,D,rfl,h1,h2⟩;refine oS sizeOf35 ?_;refine nE ?_;refine retR rfl (.agg isAgg35 sizeOf35 rfl (by repeat constructor) rfl .nil) ?_;exact leaf hx1 (List.nil_sublist _) ⟨s,u1,u2,N,D,rfl,h1,h2⟩
theorem q3z (neg : Bool) (va vb : Value) (A B : List Nat) {I : Hp} (ha : Ws I va A) (hb : Ws I vb B) (hs : A.length ≤ 35184372088400) (hs2 : B.length ≤ 35184372088400) : Fun prog 77 [.agg #[.bool neg,va,vb]] I [] (fun v _ _ => ∃ b,v = .bool b) := by
 intro w hw
 refine qn _ func77 rfl ntmps77 rfl ?_ hw;refine sR ?_;refine vh trivial rfl rfl rfl (fun b1 => ?_);refine oV ?_;refine oN (tC (cS ?_));refine zu (m := 5) [.box b1 _] (by repeat constructor) (by kernel_rfl) rfl ?_;refine qT (i := 0) (qB 5 1) (Hp.Le.refl _) rfl rfl (oA isAgg35 sizeOf35 qF) ?_;refine qT (i := 2) (qB 5 5) (Hp.Le.refl _) rfl rfl (oA isAgg35 sizeOf35 qF) ?_;refine qO (i := 1) (qB 5 7) rfl ?_;refine oI call83 rfl (q3y neg _ _ _ _ ha hb hs hs2) ?_;rintro _ I1 hx1 ⟨s,u1,u2,N,D,rfl,h1,h2⟩;refine qM (hx1.le) ?_;refine qO (i := 3) (qB 5 15) rfl ?_;refine oQ call67 rfl (qgl s neg _ _ _ _ N D A B h1 h2 (ha.le hx1.le) (hb.le hx1.le)) ?_;refine qM (hx1.le) ?_;refine qT (i := 4) (qB 5 31) (hx1.le) rfl rfl (oV qF) ?_;refine jc (by kernel_rfl) ?_;refine tC (cT ?_);refine ret1 rfl rfl ?_;exact leaf hx1 (List.nil_sublist _) ⟨_,rfl⟩
theorem qsv {l : List NodeC} {fr : Int} : ∀ (f : Nat) (i : Int),fr - 1 ≤ begZ l fr f i ∧ begZ l fr f i ≤ max i (fr - 1) := by
 intro f
 induction f with
 | zero => intro i; simp only [begZ]; omega
 | succ f ih =>
   intro i
   unfold begZ
   split
   · omega
   · split
     · omega
     · rename_i n _
       split
       · omega
       · split
         · split
           · omega
           · have := ih n.a; omega
         · split
           · omega
           · split
             · omega
             · have := ih n.a; have := ih n.b; omega
theorem qma {l : List NodeC} {fr i : Int} {f : Nat} {c : NodeC} (hi : ¬ i < fr) (hc : l[i.toNat]? = some c) : begZ l fr (f + 1) i = if c.kind = 0 ∨ c.kind = 1 then i else if c.kind = 6 ∨ c.kind = 7 then (if c.a ≠ i - 1 then fr - 1 else begZ l fr f c.a) else if c.b ≠ i - 1 then fr - 1 else if begZ l fr f c.b < fr ∨ c.a ≠ begZ l fr f c.b - 1 then fr - 1 else begZ l fr f c.a := by
 conv => lhs; unfold begZ
 rw [if_neg hi,hc]
theorem qij {l : List NodeC} {fr i : Int} (f : Nat) (h : i < fr) : begZ l fr f i = fr - 1 := by
 cases f with
 | zero => rfl
 | succ f => unfold begZ; rw [if_pos h]
theorem q30 : ∀ (x : Ex) (b : Nat),x.ok → ∀ c ∈ x.nd b,(vj c).isSome = true := by
 intro x
 induction x with
 | ref t => intro b h c hc; rw [List.mem_singleton.1 hc,qkv h]; rfl
 | num q => intro b h c hc; rw [List.mem_singleton.1 hc,qqd h]; rfl
 | neg x ih =>
   intro b h c hc
   rcases List.mem_append.1 hc with hc | hc
   · exact ih b h c hc
   · rw [List.mem_singleton.1 hc,qkw]; rfl
 | pow x e ih =>
   intro b h c hc
   rcases List.mem_append.1 hc with hc | hc
   · exact ih b h.1 c hc
   · rw [List.mem_singleton.1 hc,qkx h.2]; rfl
 | bin k x y ih1 ih2 =>
   intro b h c hc
   obtain ⟨h1,h2,h3,h4⟩ := h
   rcases List.mem_append.1 hc with hc | hc
   · rcases List.mem_append.1 hc with hc | hc
     · exact ih1 b h3 c hc
     · exact ih2 _ h4 c hc
   · rw [List.mem_singleton.1 hc,qky ⟨h1,h2⟩]; rfl
theorem qsw : ∀ (l : List (ByteArray × Ex)) (b : Nat), jv l → ∀ c ∈ (laid l b).2, (vj c).isSome = true
 | [],_,_,c,hc => by cases hc
 | (s, x) :: l, b, h, c, hc => by
   rcases List.mem_append.1 hc with hc | hc
   · exact q30 x b (h _ List.mem_cons_self).2 c hc
   · exact qsw l _ (fun a ha => h a (List.mem_cons_of_mem _ ha)) c hc
def bgGo (all : List NodeC) : List LetC → Int → Option Int
 | [],fr => some fr
 | l :: ls,fr => if vt l.name = true ∧ fr ≤ l.root ∧ l.root < all.length ∧ begZ all fr all.length l.root = fr then bgGo all ls (l.root + 1) else none
theorem qmb (all : List NodeC) : ∀ (l : List (ByteArray × Ex)) (b : Nat), jv l → (∀ j c, (laid l b).2[j]? = some c → all[b + j]? = some c) → b + (laid l b).2.length ≤ all.length → bgGo all (laid l b).1 b = some ((b + (laid l b).2.length : Nat) : Int)
 | [],b,_,_,_ => by simp [bgGo,laid]
 | (s, x) :: l, b, h, hat, hle => by
   obtain ⟨h1,h2⟩ := h _ List.mem_cons_self
   have hn := x.n_pos
   have hln : (x.nd b ++ (laid l (b + x.n)).2).length = x.n + (laid l (b + x.n)).2.length := by rw [List.length_append,x.nd_len]
   change b + (x.nd b ++ (laid l (b + x.n)).2).length ≤ _ at hle
   have hA : At all b x := fun j c hj => hat j c (by
     show (x.nd b ++ (laid l (b + x.n)).2)[j]? = some c
     rw [List.getElem?_append_left (List.getElem?_eq_some_iff.1 hj).1]; exact hj)
   have hB := qz4 (fr := (b : Int)) (by omega) x b all.length h2 hA (Int.le_refl _) (by omega)
   show bgGo all (⟨s,(b : Int) + x.n - 1⟩ :: (laid l (b + x.n)).1) b = _
   unfold bgGo
   rw [if_pos ⟨h1,by dsimp only; omega,by dsimp only; omega,hB⟩]
   have e : ((b : Int) + x.n - 1 + 1) = ((b + x.n : Nat) : Int) := by omega
   dsimp only
   rw [e, qmb all l (b + x.n) (fun a ha => h a (List.mem_cons_of_mem _ ha)) (fun j c hj => by
     have := hat (x.n + j) c (by
       show (x.nd b ++ (laid l (b + x.n)).2)[x.n + j]? = some c
       rw [List.getElem?_append_right (by rw [x.nd_len]; omega),x.nd_len,Nat.add_sub_cancel_left]; exact hj)
     rw [Nat.add_assoc]; exact this) (by omega)]
   show some _ = some (((b + (x.nd b ++ (laid l (b + x.n)).2).length : Nat)) : Int)
   rw [hln]
   congr 2
   omega
theorem q31 {all : List NodeC} {b : Nat} {x : Ex} (h : At all b x) (hb : b + x.n ≤ all.length) : all.drop b = x.nd b ++ all.drop (b + x.n) := by
 apply List.ext_getElem?
 intro j
 by_cases hj : j < x.n
 · rw [List.getElem?_append_left (by rw [x.nd_len]; exact hj), List.getElem?_drop]
   obtain ⟨c,hc⟩ : ∃ c,(x.nd b)[j]? = some c := ⟨_,List.getElem?_eq_getElem (by rw [x.nd_len]; exact hj)⟩
   rw [hc]
   exact h j c hc
 · rw [List.getElem?_append_right (by rw [x.nd_len]; omega), x.nd_len, List.getElem?_drop, List.getElem?_drop]
   congr 1
   omega
theorem qsx (all : List NodeC) (hok : ∀ c ∈ all, (vj c).isSome = true) : ∀ (ls : List LetC) (b : Nat), b ≤ all.length → bgGo all ls b = some (all.length : Int) → ∃ l : List (ByteArray × Ex), jv l ∧ ls = (laid l b).1 ∧ all.drop b = (laid l b).2
 | [], b, hb, h => by
   unfold bgGo at h
   have : b = all.length := by have := Option.some.inj h; omega
   subst this
   exact ⟨[],fun a ha => (by cases ha),rfl,(by rw [List.drop_length]; rfl)⟩
 | l :: ls, b, hb, h => by
   unfold bgGo at h
   split at h
   · rename_i hc
     obtain ⟨c1,c2,c3,c4⟩ := hc
     obtain ⟨b',x,k1,k2,k3,k4⟩ := qz5 (fr := (b : Int)) (by omega) hok all.length l.root c3 (by rw [c4]; omega)
     have hbb : b' = b := by omega
     subst hbb
     have hxn := x.n_pos
     have e : l.root + 1 = ((b' + x.n : Nat) : Int) := by omega
     rw [e] at h
     obtain ⟨r,r1,r2,r3⟩ := qsx all hok ls (b' + x.n) (by omega) h
     refine ⟨(l.name,x) :: r,fun a ha => ?_,?_,?_⟩
     · rcases List.mem_cons.1 ha with rfl | ha
       · exact ⟨c1,k2⟩
       · exact r1 a ha
     · show l :: ls = ⟨l.name, (b' : Int) + x.n - 1⟩ :: (laid r (b' + x.n)).1
       rw [← r2]
       obtain ⟨ln,lr⟩ := l
       change (b' : Int) + x.n - 1 = lr at k4
       rw [k4]
     · rw [q31 k3 (by omega),r3]; rfl
   · cases h
def qa8 (p : qv) : Bool := (jx p.ins && decide (1 ≤ p.ins.length) && decide (p.ins.length ≤ 40)) && (jx p.outs && decide (1 ≤ p.outs.length) && decide (p.outs.length ≤ 40)) && decide (p.lets.length ≤ 40) && decide (p.all.length ≤ 400) && p.all.all (fun c => (vj c).isSome) && (bgGo p.all p.lets 0 == some (p.all.length : Int)) && !qdw p
theorem qsy {p : qv} (h1 : p.all.all (fun c => (vj c).isSome) = true) (h2 : bgGo p.all p.lets 0 = some (p.all.length : Int)) : ∃ l,Shaped p l := by
 obtain ⟨l,k1,k2,k3⟩ := qsx p.all (fun c hc => List.all_eq_true.1 h1 c hc) p.lets 0 (Nat.zero_le _) h2
 exact ⟨l,k2,by rw [List.drop_zero] at k3; exact k3,k1⟩
theorem q32 (p : qv) : qa8 p = (tZ p).isSome := by
 rw [Bool.eq_iff_iff]
 constructor
 · intro h
   unfold qa8 at h
   simp only [Bool.and_eq_true,decide_eq_true_eq,beq_iff_eq] at h
   obtain ⟨⟨⟨⟨⟨⟨⟨⟨a1,a2⟩,a3⟩,⟨b1,b2⟩,b3⟩,c1⟩,c2⟩,c3⟩,c4⟩,c5⟩ := h
   obtain ⟨l,hl⟩ := qsy c3 c4
   rw [qss hl ⟨qcv.1 a1,a2⟩ ⟨qcv.1 b1,b2⟩]
   exact c5
 · intro h
   obtain ⟨l,hr⟩ := qex.1 h
   have hg := qmb p.all l 0 hr.ok (fun j c hj => by rw [hr.all,Nat.zero_add]; exact hj) (by rw [Nat.zero_add,← hr.all]; exact Nat.le_refl _)
   have hlo := qss hr.toShaped ⟨hr.ins.1,hr.ins.2.1⟩ ⟨hr.outs.1,hr.outs.2.1⟩
   rw [h] at hlo
   have hll : p.lets.length = l.length := by rw [hr.lets,qdn]
   unfold qa8
   rw [← hlo,qcv.2 hr.ins.1,qcv.2 hr.outs.1]
   have hp : p.all.all (fun c => (vj c).isSome) = true := List.all_eq_true.2 fun c hc => qsw l 0 hr.ok c (by rw [← hr.all]; exact hc)
   rw [← hr.lets,← hr.all] at hg
   have hg' : bgGo p.all p.lets 0 = some (p.all.length : Int) := by rw [show (0 : Int) = ((0 : Nat) : Int) from rfl,hg,Nat.zero_add]
   rw [hp,hg']
   have := hr.ins.2
   have := hr.outs.2
   have := hr.few
   simp
   omega
def fewP (p : qv) (most : Int) : Bool := decide ((p.all.length : Int) ≤ most ∧ p.ins.length ≤ 8 ∧ p.lets.length ≤ 8 ∧ p.outs.length ≤ 8) && p.all.all fun c => decide (c.n.length ≤ 6 ∧ c.d.length ≤ 6 ∧ c.name.size ≤ 60)
theorem PtV.lone {I : Hp} {b : Nat} {neg : Bool} {n d : List Nat} {vn vd : Value} {T : TypeId} {fz : Nat × Nat} (hb : I b = some (.cells ([.bool neg, vn, vd] ++ [] : List Value).toArray T fz)) (hn : Ws I vn n) (hd : Ws I vd d) : PtV I (.slice (some ⟨b, 0, none⟩) 1 1) [⟨neg, n, d, vn, vd⟩] :=
 ⟨Slc.of_box (xss := [[.bool neg,vn,vd]]) hb (fun c hc => by rw [List.mem_singleton.1 hc]; rfl) (by unfold maxLen; simp) (Nat.le_refl _),fun x hx => by rw [List.mem_singleton.1 hx]; exact ⟨hn,hd⟩⟩
theorem qsz (v : Value) (l : List ByteArray) (m : Int) {I : Hp} (h : Slc I 1 v (scs l)) : Fun prog 44 [v,.int .i64 m] I [] (fun r _ _ => r = .bool (jx l && decide (m ≤ l.length) && decide (l.length ≤ 40))) := by
 have hl := jq l
 have hmx := h.most
 rw [hl] at hmx
 unfold maxLen at hmx
 intro w hw
 refine qz _ func44 rfl ntmps44 rfl ?_ hw;refine sR ?_;refine oV ?_;refine nU ?_;refine oV ?_;refine qu trivial rfl underlying22 rfl (h) ?_;iterate 2 refine oV ?_
 refine' oZ (fun hb11 => ?_) ?_;rotate_left
 ·
  have fb11 := hb11
  try simp only [bl] at fb11
  refine gV hb11 ?_;refine qu (wS rfl rfl hb11) rfl underlying22 rfl (h) ?_;refine gV hb11 ?_;refine oN ?_;exact qa rfl
 refine nT ?_;refine cC rfl (fun h1 => ?_) (fun h1 => ?_)
 ·
  have f1 := h1;try simp only [bl] at f1
  refine sR ?_;refine oV ?_;refine nF ?_;refine ret1 rfl rfl ?_;refine qe (congrArg Value.bool ?_)
  simp at h1
  rw [Bool.eq_iff_iff]
  simp
  omega
 have f1 := h1;try simp only [bl] at f1
 have hno : m ≤ l.length ∧ l.length ≤ 40 := by simp at h1; omega
 refine cK (tC (cS (sR ?_)));refine oV ?_;refine oN (tC (cB ?_));refine qt (ι := Nat) [0] (.cons rfl .nil) (fun x => l.length - x) (fun x E0 => (5,.int .i64 (x : Int)) :: E0) (fun x => St w [] I []) (fun x => x ≤ l.length ∧ l.all vt = (l.drop x).all vt) (0) (sC rfl (sC rfl sN)) (fun _ h => h) (⟨Nat.zero_le _,rfl⟩) ?_;rintro i ⟨hi,hF⟩
 try dsimp only
 refine cS (sR ?_);iterate 2 refine oV ?_
 refine qu trivial rfl underlying22 rfl (h) ?_;refine oV ?_;refine nT ?_;refine cC rfl (fun h2 => ?_) (fun h2 => ?_)
 ·
  have f2 := h2;try simp only [bl] at f2
  obtain ⟨s,hs⟩ : ∃ s,l[i]? = some s := ⟨l[i]'(by omega),List.getElem?_eq_getElem (by omega)⟩
  refine cK (tC (cS (cB (sR ?_))));iterate 2 refine oV ?_
  refine vk trivial rfl underlying22 sizeOf9 rfl (h) rfl (by omega) ?_;refine q7 trivial rfl isAgg9 rfl (qau h hs) ?_;refine oP trivial rfl call46 rfl (qk8 _) ?_;refine oV ?_;refine nS ?_;iterate 2 refine oV ?_
  refine nT ?_;refine cC rfl (fun h3 => ?_) (fun h3 => ?_)
  ·
   have f3 := h3;try simp only [bl] at f3
   refine sR ?_;refine oV ?_;refine oN (tC (cT (qb (tR (tR (qb (tR ?_)))))));refine ret1 rfl rfl ?_;refine qe (congrArg Value.bool ?_)
   unfold jx
   rw [hF,qey hs,show vt s = false by simpa using h3]; rfl
  have f3 := h3;try simp only [bl] at f3
  refine cK (qg (tC (cR ?_)));refine oV ?_
  (refine qh trivial rfl rfl rfl ?_ ?_; (omega))
  refine oV ?_;refine oN ?_;exact ql (i + 1) (sC rfl (sC rfl sN)) (fun _ h => h) (by show l.length - (i + 1) < l.length - i; omega) ⟨by show i + 1 ≤ l.length; omega,by rw [hF,qey hs,show vt s = true by simpa using h3]; rfl⟩
 have f2 := h2;try simp only [bl] at f2
 have hin : i = l.length := by omega
 rw [hin,List.drop_length] at hF
 refine qp (qc (qc (qo rfl (tC (sR ?_)))));refine oV ?_;refine nE ?_;refine ret1 rfl rfl ?_;refine qe (congrArg Value.bool ?_)
 unfold jx
 rw [hF]
 simp
 omega
theorem qfa {b : Bool} {k : Nat} : (if b = true then some k else none).isSome = b := by cases b <;> rfl
theorem q33 (neg : Bool) (va vb : Value) (A B : List Nat) {I : Hp} (ha : Ws I va A) (hb : Ws I vb B) (hs : A.length ≤ 35184372088400) (hs2 : B.length ≤ 35184372088400) : Fun prog 77 [.agg #[.bool neg,va,vb]] I [] (fun v _ _ => ∃ b,v = .bool b ∧ (A.length ≤ 3000 → B.length ≤ 3000 → b = qbm neg A B)) := by
 by_cases h : A.length ≤ 3000 ∧ B.length ≤ 3000
 · exact qds (qsk neg _ _ _ _ ha hb h.1 h.2) fun v I' B' hv => ⟨_,hv,fun _ _ => rfl⟩
 · exact qds (q3z neg _ _ _ _ ha hb hs hs2) fun v I' B' ⟨b,hv⟩ => ⟨b,hv,fun h1 h2 => absurd ⟨h1,h2⟩ h⟩
theorem q34 (o : qd) {I : Hp} (ho : o.ok I) (hf : o.c.few 35184372088400) : Fun prog 45 [.agg o.cells.toArray] I [] (fun v _ _ => ∃ b,v = .bool b ∧ (b = true → 0 ≤ o.c.kind ∧ o.c.kind ≤ 7) ∧ (o.c.few 3000 → b = (vj o.c).isSome)) := by
 have ha := ho.1
 have hb := ho.2
 have hb1 := ha.cells1
 have hb2 := hb.cells1
 obtain ⟨⟨kind,a,b,e,name,neg,n,d⟩,vn,vd⟩ := o
 change Ws I vn n at ha
 change Ws I vd d at hb
 have hq := qgl neg false vn vd (.slice none 0 0) (.slice none 0 0) n d [] [] ha hb (Ws.nil I) (Ws.nil I)
 have hz : (decide (neg = false) && decide (n = []) && decide (d = [])) = qx neg n d := by
   unfold qx
   cases neg <;> cases n <;> cases d <;> simp
 rw [hz] at hq
 have hsa := j7 (val n)
 have hsb := j7 (val d)
 unfold qd.cells
 intro w hw
 refine qn _ func45 rfl ntmps45 rfl ?_ hw;refine sR ?_;refine vh trivial rfl rfl rfl (fun b1 => ?_);refine oV ?_;refine nS ?_;refine oF 5 underlying37 sizeOf35 ?_;refine oA isAgg35 sizeOf35 ?_;refine qw trivial rfl (qbk) rfl .nil ?_;refine oQ call67 rfl hq ?_;refine oV ?_;refine oN (tC (cS (cB (sR ?_))));refine oF 0 underlying37 sizeOf3 ?_;refine oL isAgg3 ?_;iterate 2 refine oV ?_
 refine nT ?_;refine cC rfl (fun h1 => ?_) (fun h1 => ?_)
 ·
  have f1 := h1;try simp only [bl] at f1
  refine sR ?_;refine oF 4 underlying37 sizeOf9 ?_;refine oL isAgg9 ?_;refine oP trivial rfl call46 rfl (qk8 _) ?_;refine oV ?_;refine nS ?_;refine oV ?_;refine' oY (fun hb18 => ?_) ?_;rotate_left
  ·
   refine gV hb18 ?_;refine oN ?_;exact qa rfl
  refine' oY (fun hb21 => ?_) ?_;rotate_left
  ·
   have fb21 := hb21
   try simp only [bl] at fb21
   refine gF hb21 1 underlying37 sizeOf3 ?_;refine gL hb21 isAgg3 ?_;refine gV hb21 ?_;refine oN ?_;exact qa rfl
  refine' oY (fun hb26 => ?_) ?_;rotate_left
  ·
   have fb26 := hb26
   try simp only [bl] at fb26
   refine gF hb26 2 underlying37 sizeOf3 ?_;refine gL hb26 isAgg3 ?_;refine gV hb26 ?_;refine oN ?_;exact qa rfl
  refine' oY (fun hb31 => ?_) ?_;rotate_left
  ·
   have fb31 := hb31
   try simp only [bl] at fb31
   refine gF hb31 3 underlying37 sizeOf3 ?_;refine gL hb31 isAgg3 ?_;refine gV hb31 ?_;refine oN ?_;exact qa rfl
  refine oV ?_;refine oN (tC (cT (qb (tR ?_))));refine ret1 rfl rfl ?_;refine qe ⟨_,rfl,fun _ => (show 0 ≤ kind ∧ kind ≤ 7 by omega),fun _ => ?_⟩; rw [qqs (show kind = 0 by omega),qfa]; done
 have f1 := h1;try simp only [bl] at f1
 refine sR ?_;refine oF 0 underlying37 sizeOf3 ?_;refine oL isAgg3 ?_;iterate 2 refine oV ?_
 refine nT ?_;refine cC rfl (fun h2 => ?_) (fun h2 => ?_)
 ·
  have f2 := h2;try simp only [bl] at f2
  refine sR ?_;refine oF 5 underlying37 sizeOf35 ?_;refine oA isAgg35 sizeOf35 ?_;refine qc1 trivial rfl call77 rfl (q33 neg _ _ _ _ ha hb hf.1 hf.2) ?_;rintro _ ⟨rb,rfl,hrb⟩;refine oV ?_;refine nU ?_;iterate 2 refine oV ?_
  refine' oZ (fun hb45 => ?_) ?_;rotate_left
  ·
   have fb45 := hb45
   try simp only [bl] at fb45
   refine gF hb45 5 underlying37 sizeOf35 ?_;refine gF hb45 0 underlying35 sizeOf4 ?_;refine gL hb45 isAgg4 ?_;refine oN ?_;exact qa rfl
  refine' oZ (fun hb50 => ?_) ?_;rotate_left
  ·
   have fb50 := hb50
   try simp only [bl] at fb50
   refine gF hb50 4 underlying37 sizeOf9 ?_;refine gL hb50 isAgg9 ?_;refine gV hb50 ?_;refine oN ?_;exact qa rfl
  refine' oZ (fun hb55 => ?_) ?_;rotate_left
  ·
   have fb55 := hb55
   try simp only [bl] at fb55
   refine gF hb55 1 underlying37 sizeOf3 ?_;refine gL hb55 isAgg3 ?_;refine gV hb55 ?_;refine oN ?_;exact qa rfl
  refine' oZ (fun hb60 => ?_) ?_;rotate_left
  ·
   have fb60 := hb60
   try simp only [bl] at fb60
   refine gF hb60 2 underlying37 sizeOf3 ?_;refine gL hb60 isAgg3 ?_;refine gV hb60 ?_;refine oN ?_;exact qa rfl
  refine' oZ (fun hb65 => ?_) ?_;rotate_left
  ·
   have fb65 := hb65
   try simp only [bl] at fb65
   refine gF hb65 3 underlying37 sizeOf3 ?_;refine gL hb65 isAgg3 ?_;refine gV hb65 ?_;refine oN ?_;exact qa rfl
  refine nT ?_;refine cC rfl (fun h3 => ?_) (fun h3 => ?_)
  ·
   have f3 := h3;try simp only [bl] at f3
   refine sR ?_;refine oV ?_;refine oN (tC (cT (tR (qb (tR ?_)))));refine ret1 rfl rfl ?_;refine qe ⟨_,rfl,fun _ => (show 0 ≤ kind ∧ kind ≤ 7 by omega),fun hw => ?_⟩
   obtain rfl := hrb hw.1 hw.2
   rw [qk9 (show kind = 1 by omega),qfa,← qb4]; unfold yb; dsimp only; symm; rw [Bool.eq_false_iff]; intro hh; simp only [Bool.and_eq_true,decide_eq_true_eq,beq_iff_eq,Bool.not_eq_true'] at hh; obtain ⟨⟨⟨⟨g1,⟨⟨g2,g3⟩,g4⟩,g5⟩,g6⟩,g7⟩,g8⟩ := hh; rcases f3 with ((((f3 | f3) | f3) | f3) | f3) | f3 <;> simp_all <;> done
  have f3 := h3;try simp only [bl] at f3
  refine kS ?_;refine oF 5 underlying37 sizeOf35 ?_;refine oF 1 underlying35 sizeOf33 ?_;refine oL isAgg33 ?_;refine oQ call78 rfl (qii _ _ ha hf.1) ?_;refine yj trivial rfl underlying9 rfl ?_;refine oV ?_;refine' oY (fun hb76 => ?_) ?_;rotate_left
  ·
   have fb76 := hb76
   try simp only [bl] at fb76
   refine gF hb76 5 underlying37 sizeOf35 ?_;refine gF hb76 2 underlying35 sizeOf33 ?_;refine gL hb76 isAgg33 ?_;refine yd (wS rfl rfl hb76) rfl call78 rfl (qii _ _ hb hf.2) ?_;refine yj (wS rfl rfl hb76) rfl underlying9 rfl ?_;refine gV hb76 ?_;refine oN ?_;exact qa rfl
  refine oV ?_;refine oN (tC (cT (qb (tR ?_))));refine ret1 rfl rfl ?_;refine qe ⟨_,rfl,fun _ => (show 0 ≤ kind ∧ kind ≤ 7 by omega),fun hw => ?_⟩
  obtain rfl := hrb hw.1 hw.2
  have hda := qdi ha.wds hw.1
  have hdb := qdi hb.wds hw.2
  rw [qk9 (show kind = 1 by omega),qfa,← qb4]; unfold yb; dsimp only; obtain ⟨⟨⟨⟨⟨g1,g2⟩,g3⟩,g4⟩,g5⟩,g6⟩ := f3; rw [g1,g2,g3,g4,g5,g6,hsa,hsb,Bool.eq_iff_iff]; simp; omega
 have f2 := h2;try simp only [bl] at f2
 refine sR ?_;refine oF 0 underlying37 sizeOf3 ?_;refine oL isAgg3 ?_;refine oV ?_;refine' oY (fun hb88 => ?_) ?_;rotate_left
 ·
  have fb88 := hb88
  try simp only [bl] at fb88
  refine gF hb88 0 underlying37 sizeOf3 ?_;refine gL hb88 isAgg3 ?_;refine gV hb88 ?_;refine oN ?_;exact qa rfl
 refine oV ?_;refine nT ?_;refine cC rfl (fun h4 => ?_) (fun h4 => ?_)
 ·
  have f4 := h4;try simp only [bl] at f4
  refine sR ?_;refine oF 4 underlying37 sizeOf9 ?_;refine oL isAgg9 ?_;refine oV ?_;refine' oY (fun hb96 => ?_) ?_;rotate_left
  ·
   refine gV hb96 ?_;refine oN ?_;exact qa rfl
  refine' oY (fun hb99 => ?_) ?_;rotate_left
  ·
   have fb99 := hb99
   try simp only [bl] at fb99
   refine gF hb99 3 underlying37 sizeOf3 ?_;refine gL hb99 isAgg3 ?_;refine gV hb99 ?_;refine oN ?_;exact qa rfl
  refine oV ?_;refine oN (tC (cT (qb (tR ?_))));refine ret1 rfl rfl ?_;refine qe ⟨_,rfl,fun _ => (show 0 ≤ kind ∧ kind ≤ 7 by omega),fun _ => ?_⟩; rw [qqt (show 2 ≤ kind ∧ kind ≤ 5 by omega),qfa,qb4]; done
 have f4 := h4;try simp only [bl] at f4
 refine sR ?_;refine oF 0 underlying37 sizeOf3 ?_;refine oL isAgg3 ?_;iterate 2 refine oV ?_
 refine nT ?_;refine cC rfl (fun h5 => ?_) (fun h5 => ?_)
 ·
  have f5 := h5;try simp only [bl] at f5
  refine sR ?_;refine oF 4 underlying37 sizeOf9 ?_;refine oL isAgg9 ?_;refine oV ?_;refine' oY (fun hb111 => ?_) ?_;rotate_left
  ·
   refine gV hb111 ?_;refine oN ?_;exact qa rfl
  refine' oY (fun hb114 => ?_) ?_;rotate_left
  ·
   have fb114 := hb114
   try simp only [bl] at fb114
   refine gF hb114 2 underlying37 sizeOf3 ?_;refine gL hb114 isAgg3 ?_;refine gV hb114 ?_;refine oN ?_;exact qa rfl
  refine' oY (fun hb119 => ?_) ?_;rotate_left
  ·
   have fb119 := hb119
   try simp only [bl] at fb119
   refine gF hb119 3 underlying37 sizeOf3 ?_;refine gL hb119 isAgg3 ?_;refine gV hb119 ?_;refine oN ?_;exact qa rfl
  refine oV ?_;refine oN (tC (cT (qb (tR ?_))));refine ret1 rfl rfl ?_;refine qe ⟨_,rfl,fun _ => (show 0 ≤ kind ∧ kind ≤ 7 by omega),fun _ => ?_⟩; rw [qqu (show kind = 6 by omega),qfa,qb4]; done
 have f5 := h5;try simp only [bl] at f5
 refine sR ?_;refine oF 0 underlying37 sizeOf3 ?_;refine oL isAgg3 ?_;iterate 2 refine oV ?_
 refine nT ?_;refine cC rfl (fun h6 => ?_) (fun h6 => ?_)
 ·
  have f6 := h6;try simp only [bl] at f6
  refine sR ?_;refine oF 4 underlying37 sizeOf9 ?_;refine oL isAgg9 ?_;refine oV ?_;refine' oY (fun hb131 => ?_) ?_;rotate_left
  ·
   refine gV hb131 ?_;refine oN ?_;exact qa rfl
  refine' oY (fun hb134 => ?_) ?_;rotate_left
  ·
   have fb134 := hb134
   try simp only [bl] at fb134
   refine gF hb134 2 underlying37 sizeOf3 ?_;refine gL hb134 isAgg3 ?_;refine gV hb134 ?_;refine oN ?_;exact qa rfl
  refine' oY (fun hb139 => ?_) ?_;rotate_left
  ·
   have fb139 := hb139
   try simp only [bl] at fb139
   refine gF hb139 3 underlying37 sizeOf3 ?_;refine gL hb139 isAgg3 ?_;refine gV hb139 ?_;refine oN ?_;exact qa rfl
  refine' oY (fun hb144 => ?_) ?_;rotate_left
  ·
   have fb144 := hb144
   try simp only [bl] at fb144
   refine gF hb144 3 underlying37 sizeOf3 ?_;refine gL hb144 isAgg3 ?_;refine gV hb144 ?_;refine oN ?_;exact qa rfl
  refine oV ?_;refine oN (tC (cT (qb (tR ?_))));refine ret1 rfl rfl ?_;refine qe ⟨_,rfl,fun _ => (show 0 ≤ kind ∧ kind ≤ 7 by omega),fun _ => ?_⟩; rw [qqv (show kind = 7 by omega),qfa,qb4]; done
 have f6 := h6;try simp only [bl] at f6
 refine cK (qg (tC (sR ?_)));refine oV ?_;refine nE ?_;refine ret1 rfl rfl ?_;refine qe ⟨_,rfl,fun h => (by cases h),fun _ => ?_⟩; rw [qqw (show kind < 0 ∨ 7 < kind by omega)]; rfl
theorem q35 (va : Value) (ns : List qd) (fr : Int) {I : Hp} (hsa : Slc I 8 va (nds ns)) (hok : ∀ o ∈ ns,o.ok I) (hkn : ∀ c ∈ ns.map qd.c,0 ≤ c.kind ∧ c.kind ≤ 7) (hfr : 0 ≤ fr ∧ fr ≤ 1000000) (hn : ns.length ≤ 100000) : ∀ (f : Nat) (i : Int),i < ns.length → i < fr + f → -1 ≤ i → Fun prog 47 [va,.int .i64 fr,.int .i64 i] I [] (fun v _ _ => v = .int .i64 (begZ (ns.map qd.c) fr f i)) := by
 intro f
 have hln := zl ns
 induction f with
 | zero =>
   intro i hi hf h1
   have hz := qij (l := ns.map qd.c) 0 (show i < fr by omega)
   intro w hw
   refine j5 _ func47 rfl ntmps47 rfl ?_ hw;refine sR ?_;refine oV ?_;refine nU ?_;iterate 3 refine oV ?_
   refine nT ?_;refine cC rfl (fun h1 => ?_) (fun h1 => ?_)
   ·
    have f1 := h1;try simp only [bl] at f1
    refine sR ?_;refine oV ?_
    (refine vp trivial rfl rfl rfl ?_ ?_; (omega))
    refine oV ?_;refine nF ?_;refine ret1 rfl rfl ?_;refine qe (congrArg (Value.int .i64) hz.symm)
   have f1 := h1;try simp only [bl] at f1
   exfalso; omega
 | succ f ih =>
   intro i hi hf h1
   by_cases hlow : i < fr
   · have hz := qij (l := ns.map qd.c) (f + 1) hlow
     intro w hw
     refine j5 _ func47 rfl ntmps47 rfl ?_ hw;refine sR ?_;refine oV ?_;refine nU ?_;iterate 3 refine oV ?_
     refine nT ?_;refine cC rfl (fun h1 => ?_) (fun h1 => ?_)
     ·
      have f1 := h1;try simp only [bl] at f1
      refine sR ?_;refine oV ?_
      (refine vp trivial rfl rfl rfl ?_ ?_; (omega))
      refine oV ?_;refine nF ?_;refine ret1 rfl rfl ?_;refine qe (congrArg (Value.int .i64) hz.symm)
     have f1 := h1;try simp only [bl] at f1
     exfalso; omega
   · obtain ⟨k, rfl⟩ : ∃ k : Nat, i = k := ⟨i.toNat, by omega⟩
     obtain ⟨o,ho⟩ : ∃ o,ns[k]? = some o := ⟨ns[k]'(by omega),List.getElem?_eq_getElem (by omega)⟩
     have hoc : (ns.map qd.c)[((k : Nat) : Int).toNat]? = some o.c := by rw [Int.toNat_natCast,List.getElem?_map,ho]; rfl
     have hom := List.mem_of_getElem? ho
     have hw1 : Ws I o.vn o.c.n := (hok o hom).1
     have hw2 : Ws I o.vd o.c.d := (hok o hom).2
     have hz := qma (f := f) hlow hoc
     have ra := qsv (l := ns.map qd.c) (fr := fr) f o.c.a
     have rb := qsv (l := ns.map qd.c) (fr := fr) f o.c.b
     have hkd : 0 ≤ o.c.kind ∧ o.c.kind ≤ 7 := hkn o.c (List.mem_map_of_mem hom)
     intro w hw
     refine j5 _ func47 rfl ntmps47 rfl ?_ hw;refine sR ?_;refine oV ?_;refine nU ?_;iterate 3 refine oV ?_
     refine nT ?_;refine cC rfl (fun h1 => ?_) (fun h1 => ?_)
     ·
      have f1 := h1;try simp only [bl] at f1
      exfalso; omega
     have f1 := h1;try simp only [bl] at f1
     refine kS ?_;iterate 2 refine oV ?_
     refine vk trivial rfl underlying24 sizeOf37 rfl (hsa) rfl (by omega) ?_;refine jz trivial rfl isAgg37 sizeOf37 rfl rfl (qav hsa ho) ?_;refine qq trivial rfl zeroValue37 rfl (fun b7 => ?_);refine oS sizeOf37 ?_;refine oN (tC (cS (cB (sR ?_))));refine oF 0 underlying37 sizeOf3 ?_;refine oL isAgg3 ?_;refine oV ?_;refine' oZ (fun hb22 => ?_) ?_;rotate_left
     ·
      have fb22 := hb22
      try simp only [bl] at fb22
      refine gF hb22 0 underlying37 sizeOf3 ?_;refine gL hb22 isAgg3 ?_;refine gV hb22 ?_;refine oN ?_;exact qa rfl
     refine oV ?_;refine nT ?_;refine cC rfl (fun h2 => ?_) (fun h2 => ?_)
     ·
      have f2 := h2;try simp only [bl] at f2
      refine sR ?_;iterate 2 refine oV ?_
      refine oN (tC (cT (qb (tR ?_))));refine ret1 rfl rfl ?_;refine qe (congrArg (Value.int .i64) ?_); rw [hz,if_pos (by omega)]
     have f2 := h2;try simp only [bl] at f2
     refine sR ?_;refine oF 0 underlying37 sizeOf3 ?_;refine oL isAgg3 ?_;refine oV ?_;refine' oZ (fun hb32 => ?_) ?_;rotate_left
     ·
      have fb32 := hb32
      try simp only [bl] at fb32
      refine gF hb32 0 underlying37 sizeOf3 ?_;refine gL hb32 isAgg3 ?_;refine gV hb32 ?_;refine oN ?_;exact qa rfl
     refine oV ?_;refine nT ?_;refine cC rfl (fun h3 => ?_) (fun h3 => ?_)
     ·
      have f3 := h3;try simp only [bl] at f3
      refine cS (sR ?_);refine oF 1 underlying37 sizeOf3 ?_;refine oL isAgg3 ?_;refine oV ?_
      (refine vp trivial rfl rfl rfl ?_ ?_; (omega))
      refine oV ?_;refine nT ?_;refine cC rfl (fun h4 => ?_) (fun h4 => ?_)
      ·
       have f4 := h4;try simp only [bl] at f4
       refine sR ?_;refine oV ?_
       (refine vp trivial rfl rfl rfl ?_ ?_; (omega))
       refine oV ?_;refine oN (tC (cT (tR (qb (tR ?_)))));refine ret1 rfl rfl ?_;refine qe (congrArg (Value.int .i64) ?_); rw [hz,if_neg (by omega),if_pos (by omega),if_pos (by omega)]
      have f4 := h4;try simp only [bl] at f4
      refine kS ?_;iterate 2 refine oV ?_
      refine oF 1 underlying37 sizeOf3 ?_;refine oL isAgg3 ?_;refine oQ call47 rfl (ih o.c.a (by omega) (by omega) (by omega)) ?_;refine oV ?_;refine oN (tC (cT (qb (tR ?_))));refine ret1 rfl rfl ?_;refine qe (congrArg (Value.int .i64) ?_); rw [hz,if_neg (by omega),if_pos (by omega),if_neg (by omega)]
     have f3 := h3;try simp only [bl] at f3
     refine cK (qg (tC (cS (sR ?_))));refine oF 2 underlying37 sizeOf3 ?_;refine oL isAgg3 ?_;refine oV ?_
     (refine vp trivial rfl rfl rfl ?_ ?_; (omega))
     refine oV ?_;refine nT ?_;refine cC rfl (fun h5 => ?_) (fun h5 => ?_)
     ·
      have f5 := h5;try simp only [bl] at f5
      refine sR ?_;refine oV ?_
      (refine vp trivial rfl rfl rfl ?_ ?_; (omega))
      refine oV ?_;refine nF ?_;refine ret1 rfl rfl ?_;refine qe (congrArg (Value.int .i64) ?_); rw [hz,if_neg (by omega),if_neg (by omega),if_pos (by omega)]
     have f5 := h5;try simp only [bl] at f5
     refine kS ?_;iterate 2 refine oV ?_
     refine oF 2 underlying37 sizeOf3 ?_;refine oL isAgg3 ?_;refine oQ call47 rfl (ih o.c.b (by omega) (by omega) (by omega)) ?_;refine oV ?_;refine nU ?_;iterate 3 refine oV ?_
     refine' oZ (fun hb64 => ?_) ?_;rotate_left
     ·
      have fb64 := hb64
      try simp only [bl] at fb64
      refine gF hb64 1 underlying37 sizeOf3 ?_;refine gL hb64 isAgg3 ?_;refine gV hb64 ?_
      (refine vp (wS rfl rfl hb64) rfl rfl rfl ?_ ?_; (omega))
      refine gV hb64 ?_;refine oN ?_;exact qa rfl
     refine nT ?_;refine cC rfl (fun h6 => ?_) (fun h6 => ?_)
     ·
      have f6 := h6;try simp only [bl] at f6
      refine sR ?_;refine oV ?_
      (refine vp trivial rfl rfl rfl ?_ ?_; (omega))
      refine oV ?_;refine nF ?_;refine ret1 rfl rfl ?_;refine qe (congrArg (Value.int .i64) ?_); rw [hz,if_neg (by omega),if_neg (by omega),if_neg (by omega),if_pos (by omega)]
     have f6 := h6;try simp only [bl] at f6
     refine kS ?_;iterate 2 refine oV ?_
     refine oF 1 underlying37 sizeOf3 ?_;refine oL isAgg3 ?_;refine oQ call47 rfl (ih o.c.a (by omega) (by omega) (by omega)) ?_;refine oV ?_;refine nE ?_;refine ret1 rfl rfl ?_;refine qe (congrArg (Value.int .i64) ?_); rw [hz,if_neg (by omega),if_neg (by omega),if_neg (by omega),if_neg (by omega)]
def awX : ByteArray := ⟨#[120]⟩
def awA : ByteArray := ⟨#[97]⟩
theorem qik : vt awX = true := by kernel_rfl
theorem qmc : vt awA = true := by kernel_rfl
theorem isT_no {x : Tok} {k : Int} {t : ByteArray} (h : x.kind ≠ k) : isT x k t = false := by simp [isT,h]
theorem q36 (va vb : Value) (l : List Nat) {I : Hp} (ha : Slc I 1 va (nss l)) (hb : Slc I 1 vb (nss l)) : Fun prog 36 [va,vb] I [] (fun v _ _ => v = .bool true) := by
 have hl := qa6 l
 have hmx := ha.most
 rw [hl] at hmx
 unfold maxLen at hmx
 intro w hw
 refine qz _ func36 rfl ntmps36 rfl ?_ hw;refine sR ?_;refine oV ?_;refine nU ?_;refine oV ?_;refine qu trivial rfl underlying52 rfl (ha) ?_;refine oV ?_;refine qu trivial rfl underlying52 rfl (hb) ?_;refine oV ?_;refine nT ?_;refine cC rfl (fun h1 => ?_) (fun h1 => ?_)
 ·
  have f1 := h1;try simp only [bl] at f1
  exfalso; simp at h1
 have f1 := h1;try simp only [bl] at f1
 refine cK (tC (cS (sR ?_)));refine oV ?_;refine oN (tC (cB ?_));refine qt (ι := Nat) [0,1] (.cons rfl (.cons rfl .nil)) (fun x => l.length - x) (fun x E0 => (5,.int .i64 (x : Int)) :: E0) (fun x => St w [] I []) (fun x => x ≤ l.length) (0) (sC rfl (sC rfl (sC rfl sN))) (fun _ h => h) (Nat.zero_le _) ?_;rintro i hi
 try dsimp only
 refine cS (sR ?_);iterate 2 refine oV ?_
 refine qu trivial rfl underlying52 rfl (ha) ?_;refine oV ?_;refine nT ?_;refine cC rfl (fun h2 => ?_) (fun h2 => ?_)
 ·
  have f2 := h2;try simp only [bl] at f2
  obtain ⟨s,hs⟩ : ∃ s,l[i]? = some s := ⟨l[i]'(by omega),List.getElem?_eq_getElem (by omega)⟩
  refine cK (tC (cS (cB (cS ?_))));refine jf (by kernel_rfl) (by kernel_rfl) (fun _ h => h.drawn) ?_;iterate 2 refine oV ?_
  refine vk trivial rfl underlying52 sizeOf3 rfl (ha) rfl (by omega) ?_;refine q7 trivial rfl isAgg3 rfl (qh6 ha hs) ?_;iterate 2 refine oV ?_
  refine vk trivial rfl underlying52 sizeOf3 rfl (hb) rfl (by omega) ?_;refine q7 trivial rfl isAgg3 rfl (qh6 hb hs) ?_;refine oV ?_;refine nT ?_;refine cC rfl (fun h3 => ?_) (fun h3 => ?_)
  ·
   have f3 := h3;try simp only [bl] at f3
   exfalso; simp at h3
  have f3 := h3;try simp only [bl] at f3
  refine cK (qg (tC (cR ?_)));refine oV ?_
  (refine qh trivial rfl rfl rfl ?_ ?_; (omega))
  refine oV ?_;refine oN ?_;exact ql (i + 1) (sC rfl (sC rfl (sC rfl sN))) (fun _ h => h) (by show l.length - (i + 1) < l.length - i; omega) (by show i + 1 ≤ _; omega)
 have f2 := h2;try simp only [bl] at f2
 refine qp (qc (qc (qo rfl (tC (sR ?_)))));refine oV ?_;refine nE ?_;refine ret1 rfl rfl ?_;exact qe rfl
theorem q37 (vi vl vo va : Value) (p : qv) (ns : List qd) (most : Int) {I : Hp} (hp : yi I vi vl vo va p ns) :
   Fun prog 16 [.agg #[vi,vl,vo,va],.int .i64 most] I [] (fun v _ _ => v = .bool (fewP p most)) := by
 have hsi := hp.si
 have hsl := hp.sl
 have hso := hp.so
 have hsa := hp.sa
 have hli := jq p.ins
 have hlo := jq p.outs
 have hll : (p.lets.map LetC.cells).length = p.lets.length := List.length_map _
 have hla := zl ns
 have hal : p.all.length = ns.length := by rw [← hp.eq,List.length_map]
 have hm1 := hsa.most
 unfold maxLen at hm1
 intro w hw
 refine qz _ func16 rfl ntmps16 rfl ?_ hw;refine sR ?_;refine vh trivial rfl rfl rfl (fun b2 => ?_);refine oV ?_;refine nU ?_;refine oF 3 underlying26 sizeOf24 ?_;refine oL isAgg24 ?_;refine qu trivial rfl underlying24 rfl (hsa) ?_;iterate 2 refine oV ?_
 refine' oZ (fun hb12 => ?_) ?_;rotate_left
 ·
  have fb12 := hb12
  try simp only [bl] at fb12
  refine gF hb12 0 underlying26 sizeOf22 ?_;refine gL hb12 isAgg22 ?_;refine qu (wS rfl rfl hb12) rfl underlying22 rfl (hsi) ?_;refine gV hb12 ?_;refine oN ?_;exact qa rfl
 refine' oZ (fun hb18 => ?_) ?_;rotate_left
 ·
  have fb18 := hb18
  try simp only [bl] at fb18
  refine gF hb18 1 underlying26 sizeOf23 ?_;refine gL hb18 isAgg23 ?_;refine qu (wS rfl rfl hb18) rfl underlying23 rfl (hsl) ?_;refine gV hb18 ?_;refine oN ?_;exact qa rfl
 refine' oZ (fun hb24 => ?_) ?_;rotate_left
 ·
  have fb24 := hb24
  try simp only [bl] at fb24
  refine gF hb24 2 underlying26 sizeOf22 ?_;refine gL hb24 isAgg22 ?_;refine qu (wS rfl rfl hb24) rfl underlying22 rfl (hso) ?_;refine gV hb24 ?_;refine oN ?_;exact qa rfl
 refine nT ?_;refine cC rfl (fun h1 => ?_) (fun h1 => ?_)
 ·
  have f1 := h1;try simp only [bl] at f1
  refine sR ?_;refine oV ?_;refine nF ?_;refine ret1 rfl rfl ?_;refine qe (congrArg Value.bool ?_); unfold fewP; rw [decide_eq_false (by omega),Bool.false_and]
 have f1 := h1;try simp only [bl] at f1
 have hg : decide ((p.all.length : Int) ≤ most ∧ p.ins.length ≤ 8 ∧ p.lets.length ≤ 8 ∧ p.outs.length ≤ 8) = true := decide_eq_true (by omega)
 refine cK (tC (cS (sR ?_)));refine oV ?_;refine oN (tC (cB ?_));refine qt (ι := Nat) [2] (.cons rfl .nil) (fun i => ns.length - i) (fun i E0 => (5,.int .i64 (i : Nat)) :: E0) (fun i => St w [] I [.box b2 (.cells #[vi,vl,vo,va] 26 (0,0))]) (fun i => i ≤ ns.length ∧ ((ns.take i).all fun o => decide (o.c.n.length ≤ 6 ∧ o.c.d.length ≤ 6 ∧ o.c.name.size ≤ 60)) = true) (0) (sC rfl (sC rfl sN)) (fun _ h => h) (⟨Nat.zero_le _,rfl⟩) ?_;rintro i ⟨hi,hall⟩
 try dsimp only
 refine cS (sR ?_);refine oV ?_;refine oF 3 underlying26 sizeOf24 ?_;refine oL isAgg24 ?_;refine qu trivial rfl underlying24 rfl (hsa) ?_;refine oV ?_;refine nT ?_;refine cC rfl (fun h2 => ?_) (fun h2 => ?_)
 ·
  have f2 := h2;try simp only [bl] at f2
  obtain ⟨o,ho⟩ : ∃ o,ns[i]? = some o := ⟨ns[i]'(by omega),List.getElem?_eq_getElem (by omega)⟩
  have hom := List.mem_of_getElem? ho
  obtain ⟨hvn,hvd⟩ := hp.ok o hom
  refine cK (tC (cS (cB (sR ?_))));refine oF 3 underlying26 sizeOf24 ?_;refine oL isAgg24 ?_;refine oV ?_;refine vk trivial rfl underlying24 sizeOf37 rfl (hsa) rfl (by omega) ?_;refine oF 5 underlying37 sizeOf35 ?_;refine jz trivial rfl isAgg35 sizeOf35 rfl rfl (fun k y hk => by have hc := qav hsa ho (5 + k) y (by rw [Nat.add_comm]; exact hk); rw [← Nat.add_assoc] at hc; exact hc) ?_;refine oB underlying72 sizeOf35 zeroValue35 fun b43 => ?_;refine qfp .here (fun I1 hx1 hb43 => ?_);refine oQ call40 rfl (q3t _ _ 6 (PtV.lone hb43 (hvn.le hx1.le) (hvd.le hx1.le))) ?_;refine oV ?_;refine oN (tC (cS ?_))
  rw [show ([(⟨o.c.neg,o.c.n,o.c.d,o.vn,o.vd⟩ : NV)].all fun x => decide ((x.n.length : Int) ≤ 6 ∧ (x.d.length : Int) ≤ 6)) = decide ((o.c.n.length : Int) ≤ 6 ∧ (o.c.d.length : Int) ≤ 6) from Bool.and_true _]
  refine cR ?_;iterate 2 refine oV ?_
  refine' oZ (fun hb47 => ?_) ?_;rotate_left
  ·
   have fb47 := hb47
   try simp only [bl] at fb47
   refine gF hb47 3 underlying26 sizeOf24 ?_;refine gL hb47 isAgg24 ?_;refine gV hb47 ?_;refine vk (wS rfl rfl hb47) rfl underlying24 sizeOf37 rfl (hsa) rfl (by omega) ?_;refine gF hb47 4 underlying37 sizeOf9 ?_;refine q7 (wS rfl rfl hb47) rfl isAgg9 rfl (hx1.le.cell (qav hsa ho 4 _ rfl)) ?_;refine yj (wS rfl rfl hb47) rfl underlying9 rfl ?_;refine gV hb47 ?_;refine oN ?_;exact qa rfl
  refine nT ?_;refine cC rfl (fun h3 => ?_) (fun h3 => ?_)
  ·
   have f3 := h3;try simp only [bl] at f3
   refine sR ?_;refine oV ?_;refine oN (tC (cT (qb (tR (tR (qb (tR ?_)))))));refine ret1 rfl rfl ?_;refine leaf hx1 (List.nil_sublist _) (congrArg Value.bool ?_)
   unfold fewP
   rw [hg,Bool.true_and]
   symm
   rw [List.all_eq_false]
   exact ⟨o.c,by rw [← hp.eq]; exact List.mem_map_of_mem hom,by simp only [decide_eq_true_eq]; omega⟩
  have f3 := h3;try simp only [bl] at f3
  refine cK (qg (tC (cR ?_)));refine oV ?_
  (refine qh trivial rfl rfl rfl ?_ ?_; (omega))
  refine oV ?_;refine oN ?_
  exact ql (i + 1) (sC rfl (sC rfl sN)) (fun _ h => (h.sort (by repeat constructor)).fewer hx1.le) (by show ns.length - (i + 1) < ns.length - i; omega) ⟨by show i + 1 ≤ _; omega, by
    rw [List.take_add_one,ho,List.all_append,hall]
    simp only [Option.toList,List.all_cons,List.all_nil,Bool.and_true,Bool.true_and,decide_eq_true_eq]
    omega⟩
 have f2 := h2;try simp only [bl] at f2
 refine qp (qc (qc (qo rfl (tC (sR ?_)))));refine oV ?_;refine nE ?_;refine ret1 rfl rfl ?_;refine qe (congrArg Value.bool ?_)
 rw [List.take_of_length_le (by omega)] at hall
 unfold fewP
 rw [hg,Bool.true_and,← hp.eq,List.all_map]
 exact hall.symm
theorem q38 (all : List NodeC) (fr : Int) : bgGo all [] fr = some fr := rfl
theorem qfb (all : List NodeC) (l : LetC) (ls : List LetC) (fr : Int) : bgGo all (l :: ls) fr = if vt l.name = true ∧ fr ≤ l.root ∧ l.root < all.length ∧ begZ all fr all.length l.root = fr then bgGo all ls (l.root + 1) else none := rfl
def blN (c : NodeC) : NodeC := if c.kind ≤ 1 then refN ⟨#[120]⟩ else ⟨c.kind,c.a,if c.kind ≤ 5 then c.b else 0,0,⟨#[]⟩,false,[],[]⟩
theorem qs0 {c : NodeC} (h : c.kind ≤ 1) : blN c = refN ⟨#[120]⟩ := if_pos h
theorem qmd {c : NodeC} (h : ¬ c.kind ≤ 1) : blN c = ⟨c.kind,c.a,if c.kind ≤ 5 then c.b else 0,0,⟨#[]⟩,false,[],[]⟩ := if_neg h
theorem q39 {c : NodeC} (h0 : 0 ≤ c.kind) (h7 : c.kind ≤ 7) : (vj (blN c)).isSome = true := by
 by_cases h1 : c.kind ≤ 1
 · rw [qs0 h1,qkv (t := ⟨#[120]⟩) qik]; rfl
 · rw [qmd h1]
   by_cases h5 : c.kind ≤ 5
   · rw [if_pos h5]
     have := qky (k := c.kind) (a := c.a) (b := c.b) ⟨by omega,h5⟩
     unfold binN at this
     rw [this]; rfl
   · rw [if_neg h5]
     by_cases h6 : c.kind = 6
     · have := qkw c.a
       unfold negN at this
       rw [h6,this]; rfl
     · have := qkx (a := c.a) (e := 0) (by decide)
       unfold powN at this
       rw [show c.kind = 7 by omega,this]; rfl
theorem q4a {l : List NodeC} {fr : Int} (hk : ∀ c ∈ l,0 ≤ c.kind ∧ c.kind ≤ 7) : ∀ (f : Nat) (i : Int),begZ (l.map blN) fr f i = begZ l fr f i := by
 intro f
 induction f with
 | zero => intro i; rfl
 | succ f ih =>
   intro i
   by_cases hi : i < fr
   · rw [qij _ hi,qij _ hi]
   · cases hc : l[i.toNat]? with
     | none =>
       have hm : (l.map blN)[i.toNat]? = none := by rw [List.getElem?_map,hc]; rfl
       unfold begZ
       rw [if_neg hi,if_neg hi,hm,hc]
     | some c =>
       have hm : (l.map blN)[i.toNat]? = some (blN c) := by rw [List.getElem?_map,hc]; rfl
       obtain ⟨k0,k7⟩ := hk c (List.mem_of_getElem? hc)
       rw [qma hi hm,qma hi hc]
       simp only [ih]
       by_cases h1 : c.kind ≤ 1
       · rw [qs0 h1,if_pos (show (refN ⟨#[120]⟩).kind = 0 ∨ _ from Or.inl rfl),if_pos (by omega)]
       · rw [qmd h1]
         dsimp only
         by_cases h5 : c.kind ≤ 5
         · rw [if_pos h5]
         · have e01 : ¬ (c.kind = 0 ∨ c.kind = 1) := by omega
           have e67 : c.kind = 6 ∨ c.kind = 7 := by omega
           simp only [if_neg e01,if_pos e67]
theorem q4b {all : List NodeC} (hk : ∀ c ∈ all,0 ≤ c.kind ∧ c.kind ≤ 7) : ∀ (ls : List LetC) (fr : Int),bgGo (all.map blN) ls fr = bgGo all ls fr := by
 intro ls
 induction ls with
 | nil => intro fr; rfl
 | cons l ls ih => intro fr; rw [qfb,qfb,ih,List.length_map,q4a hk]
theorem q4c {all : List NodeC} {ls : List LetC} (hk : ∀ c ∈ all,0 ≤ c.kind ∧ c.kind ≤ 7) (h : bgGo all ls 0 = some (all.length : Int)) : LowN all := by
 have hb : bgGo (all.map blN) ls 0 = some ((all.map blN).length : Int) := by rw [q4b hk,List.length_map]; exact h
 obtain ⟨l, hl⟩ := qsy (p := ⟨[], ls, [], all.map blN⟩) (List.all_eq_true.2 fun c hc => by
   obtain ⟨c',hc',rfl⟩ := List.mem_map.1 hc
   exact q39 (hk c' hc').1 (hk c' hc').2) hb
 have hlow := qsn hl
 intro i c hc h1
 have := hlow i (blN c) (by show (all.map blN)[i]? = _; rw [List.getElem?_map,hc]; rfl)
 rw [qmd (by omega)] at this
 have h2 := this h1
 dsimp only at h2
 refine ⟨h2.1,h2.2.1,fun h5 => ?_⟩
 have h3 := h2.2.2 h5
 rw [if_pos h5] at h3
 exact h3
theorem q4d (vi vl vo va : Value) (p : qv) (ns : List qd) {I : Hp} (hp : yi I vi vl vo va p ns) (hf : ∀ o ∈ ns, o.c.few 35184372088400) :
   Fun prog 21 [.agg #[vi,vl,vo,va]] I [] (fun v _ _ => ∃ b,v = .bool b ∧ ((∀ o ∈ ns,o.c.few 3000) → b = qa8 p)) := by
 have hsi := hp.si
 have hsl := hp.sl
 have hso := hp.so
 have hsa := hp.sa
 have hll : (p.lets.map LetC.cells).length = p.lets.length := List.length_map _
 have hla := zl ns
 have hal : p.all.length = ns.length := by rw [← hp.eq,List.length_map]
 have hm1 := hsa.most
 unfold maxLen at hm1
 intro w hw
 refine qn _ func21 rfl ntmps21 rfl ?_ hw;refine sR ?_;refine vh trivial rfl rfl rfl (fun b1 => ?_);refine oV ?_;refine nS ?_;refine oF 0 underlying26 sizeOf22 ?_;refine oL isAgg22 ?_;refine oQ call44 rfl (qsz vi p.ins 1 hsi) ?_;refine oV ?_;refine nS ?_;refine oF 2 underlying26 sizeOf22 ?_;refine oL isAgg22 ?_;refine oQ call44 rfl (qsz vo p.outs 1 hso) ?_;refine oV ?_;refine nU ?_;iterate 2 refine oV ?_
 refine' oZ (fun hb20 => ?_) ?_;rotate_left
 ·
  have fb20 := hb20
  try simp only [bl] at fb20
  iterate 2 refine gV hb20 ?_
  refine oN ?_;exact qa rfl
 refine' oZ (fun hb24 => ?_) ?_;rotate_left
 ·
  have fb24 := hb24
  try simp only [bl] at fb24
  refine gF hb24 1 underlying26 sizeOf23 ?_;refine gL hb24 isAgg23 ?_;refine qu (wS rfl rfl hb24) rfl underlying23 rfl (hsl) ?_;refine gV hb24 ?_;refine oN ?_;exact qa rfl
 refine' oZ (fun hb30 => ?_) ?_;rotate_left
 ·
  have fb30 := hb30
  try simp only [bl] at fb30
  refine gF hb30 3 underlying26 sizeOf24 ?_;refine gL hb30 isAgg24 ?_;refine qu (wS rfl rfl hb30) rfl underlying24 rfl (hsa) ?_;refine gV hb30 ?_;refine oN ?_;exact qa rfl
 refine nT ?_;refine cC rfl (fun h1 => ?_) (fun h1 => ?_)
 ·
  have f1 := h1;try simp only [bl] at f1
  refine sR ?_;refine oV ?_;refine nF ?_;refine ret1 rfl rfl ?_;refine qe ⟨_,rfl,fun hw => ?_⟩;refine Eq.symm (Bool.eq_false_iff.2 fun hh => ?_)
  unfold qa8 at hh
  simp only [Bool.and_eq_true,decide_eq_true_eq,beq_iff_eq] at hh
  obtain ⟨⟨⟨⟨⟨⟨⟨⟨a1,a2⟩,a3⟩,⟨b1,b2⟩,b3⟩,c1⟩,c2⟩,c3⟩,c4⟩,c5⟩ := hh
  simp [a1,b1] at h1
  omega
 have f1 := h1;try simp only [bl] at f1
 have hsz : (jx p.ins = true ∧ 1 ≤ p.ins.length ∧ p.ins.length ≤ 40) ∧ (jx p.outs = true ∧ 1 ≤ p.outs.length ∧ p.outs.length ≤ 40) ∧ p.lets.length ≤ 40 ∧ p.all.length ≤ 400 := by
   obtain ⟨⟨⟨⟨⟨a1,a2⟩,a3⟩,⟨b1,b2⟩,b3⟩,c1⟩,c2⟩ := f1
   exact ⟨⟨a1,by omega,a3⟩,⟨b1,by omega,b3⟩,by omega,by omega⟩
 refine cK (tC (cS (sR ?_)));refine oV ?_;refine oN (tC (cB ?_));refine qt (ι := Nat) [1] (.cons rfl .nil) (fun i => ns.length - i) (fun i E0 => (5,.int .i64 (i : Nat)) :: E0) (fun i => St w [] I [.box b1 (.cells #[vi,vl,vo,va] 26 (0,0))]) (fun i => i ≤ ns.length ∧ (∀ c ∈ p.all.take i,0 ≤ c.kind ∧ c.kind ≤ 7) ∧ ((∀ o ∈ ns,o.c.few 3000) → p.all.all (fun c => (vj c).isSome) = (p.all.drop i).all (fun c => (vj c).isSome))) (0) (sC rfl (sC rfl sN)) (fun _ h => h) (⟨Nat.zero_le _,(fun c hc => by cases hc),fun _ => rfl⟩) ?_;rintro i ⟨hi,hkd,hall⟩
 try dsimp only
 refine cS (sR ?_);refine oV ?_;refine oF 3 underlying26 sizeOf24 ?_;refine oL isAgg24 ?_;refine qu trivial rfl underlying24 rfl (hsa) ?_;refine oV ?_;refine nT ?_;refine cC rfl (fun h2 => ?_) (fun h2 => ?_)
 ·
  have f2 := h2;try simp only [bl] at f2
  obtain ⟨o,ho⟩ : ∃ o,ns[i]? = some o := ⟨ns[i]'(by omega),List.getElem?_eq_getElem (by omega)⟩
  have hom := List.mem_of_getElem? ho
  have hoc : p.all[i]? = some o.c := by rw [← hp.eq,List.getElem?_map,ho]; rfl
  have hw1 : Ws I o.vn o.c.n := (hp.ok o hom).1
  have hw2 : Ws I o.vd o.c.d := (hp.ok o hom).2
  refine cK (tC (cS (cB (sR ?_))));refine oF 3 underlying26 sizeOf24 ?_;refine oL isAgg24 ?_;refine oV ?_;refine vk trivial rfl underlying24 sizeOf37 rfl (hsa) rfl (by omega) ?_;refine jz trivial rfl isAgg37 sizeOf37 rfl rfl (qav hsa ho) ?_;refine qc1 trivial rfl call45 rfl (q34 o (hp.ok o hom) (hf o hom)) ?_;rintro _ ⟨rb,rfl,hrb,hrw⟩;refine oV ?_;refine nS ?_;iterate 2 refine oV ?_
  refine nT ?_;refine cC rfl (fun h3 => ?_) (fun h3 => ?_)
  ·
   have f3 := h3;try simp only [bl] at f3
   refine sR ?_;refine oV ?_;refine oN (tC (cT (qb (tR (tR (qb (tR ?_)))))));refine ret1 rfl rfl ?_;refine qe ⟨_,rfl,fun hw => ?_⟩;refine Eq.symm (Bool.eq_false_iff.2 fun hh => ?_)
   unfold qa8 at hh
   simp only [Bool.and_eq_true] at hh
   have h9 := hh.1.1.2
   rw [hall hw,qey (p := fun c => (vj c).isSome) hoc,← hrw (hw o hom),show rb = false by simpa using h3] at h9
   cases h9
  have f3 := h3;try simp only [bl] at f3
  refine cK (qg (tC (cR ?_)));refine oV ?_
  (refine qh trivial rfl rfl rfl ?_ ?_; (omega))
  refine oV ?_;refine oN ?_
  exact ql (i + 1) (sC rfl (sC rfl sN)) (fun _ h => h) (by show ns.length - (i + 1) < ns.length - i; omega) ⟨by show i + 1 ≤ ns.length; omega, fun c hc => by
    rw [List.take_add_one,hoc] at hc
    rcases List.mem_append.1 hc with hc | hc
    · exact hkd c hc
    · rw [List.mem_singleton.1 hc]; exact hrb (by simpa using h3),fun hw => by rw [hall hw,qey (p := fun c => (vj c).isSome) hoc,← hrw (hw o hom),show rb = true by simpa using h3]; rfl⟩
 have f2 := h2;try simp only [bl] at f2
 have hin : i = ns.length := by omega
 have hall1 : (∀ o ∈ ns,o.c.few 3000) → p.all.all (fun c => (vj c).isSome) = true := fun hw => by rw [hall hw,hin,← hal,List.drop_length]; rfl
 have hkn : ∀ c ∈ p.all,0 ≤ c.kind ∧ c.kind ≤ 7 := fun c hc => hkd c (by rw [hin,← hal,List.take_length]; exact hc)
 have hkm : ∀ c ∈ ns.map qd.c,0 ≤ c.kind ∧ c.kind ≤ 7 := by rw [hp.eq]; exact hkn
 refine qp (qc (qc (qo rfl (tC (sR ?_)))));refine oV ?_;refine nU ?_;refine oV ?_;refine oN (tC (cB ?_));refine qt (ι := Nat × Int) [1] (.cons rfl .nil) (fun x => p.lets.length - x.1) (fun x E0 => (7,.int .i64 x.2) :: (8,.int .i64 (x.1 : Nat)) :: E0) (fun x => St w [] I [.box b1 (.cells #[vi,vl,vo,va] 26 (0,0))]) (fun x => x.1 ≤ p.lets.length ∧ 0 ≤ x.2 ∧ x.2 ≤ ns.length ∧ bgGo p.all p.lets 0 = bgGo p.all (p.lets.drop x.1) x.2) ((0,0)) (sC rfl (sC rfl (sC rfl sN))) (fun _ h => h) (⟨Nat.zero_le _,Int.le_refl _,by omega,rfl⟩) ?_;rintro ⟨j,fr⟩ ⟨hj,hfr0,hfr1,hgo⟩
 try dsimp only
 refine cS (sR ?_);refine oV ?_;refine oF 1 underlying26 sizeOf23 ?_;refine oL isAgg23 ?_;refine qu trivial rfl underlying23 rfl (hsl) ?_;refine oV ?_;refine nT ?_;refine cC rfl (fun h4 => ?_) (fun h4 => ?_)
 ·
  have f4 := h4;try simp only [bl] at f4
  obtain ⟨c,hc⟩ : ∃ c,p.lets[j]? = some c := ⟨p.lets[j]'(by omega),List.getElem?_eq_getElem (by omega)⟩
  have hdr : p.lets.drop j = c :: p.lets.drop (j + 1) := by rw [List.drop_eq_getElem_cons (List.getElem?_eq_some_iff.1 hc).1,(List.getElem?_eq_some_iff.1 hc).2]
  rw [hdr,qfb] at hgo
  refine cK (tC (cS (cB (sR ?_))));refine oF 1 underlying26 sizeOf23 ?_;refine oL isAgg23 ?_;refine oV ?_;refine vk trivial rfl underlying23 sizeOf39 rfl (hsl) rfl (by omega) ?_;refine oF 1 underlying39 sizeOf3 ?_;refine q7 trivial rfl isAgg3 rfl (qcw hsl hc 1 _ rfl) ?_;refine oV ?_;refine nS ?_;refine oF 1 underlying26 sizeOf23 ?_;refine oL isAgg23 ?_;refine oV ?_;refine vk trivial rfl underlying23 sizeOf39 rfl (hsl) rfl (by omega) ?_;refine oF 0 underlying39 sizeOf9 ?_;refine q7 trivial rfl isAgg9 rfl (qcw hsl hc 0 _ rfl) ?_;refine oP trivial rfl call46 rfl (qk8 _) ?_;refine oV ?_;refine nU ?_;iterate 2 refine oV ?_
  refine' oZ (fun hb73 => ?_) ?_;rotate_left
  ·
   iterate 3 refine gV hb73 ?_
   refine oN ?_;exact qa rfl
  refine' oZ (fun hb78 => ?_) ?_;rotate_left
  ·
   have fb78 := hb78
   try simp only [bl] at fb78
   refine gV hb78 ?_;refine gF hb78 3 underlying26 sizeOf24 ?_;refine gL hb78 isAgg24 ?_;refine qu (wS rfl rfl hb78) rfl underlying24 rfl (hsa) ?_;refine gV hb78 ?_;refine oN ?_;exact qa rfl
  refine nT ?_;refine cC rfl (fun h5 => ?_) (fun h5 => ?_)
  ·
   have f5 := h5;try simp only [bl] at f5
   refine sR ?_;refine oV ?_;refine oN (tC (cT (tR (qb (tR (tR (qb (tR ?_))))))));refine ret1 rfl rfl ?_;refine qe ⟨_,rfl,fun hw => ?_⟩
   rw [if_neg (by rintro ⟨g1,g2,g3,g4⟩; simp [g1] at h5; omega)] at hgo
   unfold qa8
   rw [hgo]
   simp
  have f5 := h5;try simp only [bl] at f5
  refine cK (tC (cS (sR ?_)));refine oF 3 underlying26 sizeOf24 ?_;refine oL isAgg24 ?_;iterate 2 refine oV ?_
  refine oQ call47 rfl (q35 va ns fr hsa hp.ok hkm (by omega) (by omega) p.all.length c.root (by omega) (by omega) (by omega)) ?_;iterate 2 refine oV ?_
  refine nT ?_;refine cC rfl (fun h6 => ?_) (fun h6 => ?_)
  ·
   have f6 := h6;try simp only [bl] at f6
   refine sR ?_;refine oV ?_;refine oN (tC (cT (tR (qb (tR (tR (qb (tR ?_))))))));refine ret1 rfl rfl ?_;refine qe ⟨_,rfl,fun hw => ?_⟩
   rw [if_neg (by rintro ⟨g1,g2,g3,g4⟩; rw [hp.eq] at f6; exact f6 g4)] at hgo
   unfold qa8
   rw [hgo]
   simp
  have f6 := h6;try simp only [bl] at f6
  refine cK (tC (cR ?_));refine oV ?_
  (refine qh trivial rfl rfl rfl ?_ ?_; (omega))
  refine oV ?_;refine oN (qg (tC (cR ?_)));refine oV ?_
  (refine qh trivial rfl rfl rfl ?_ ?_; (omega))
  refine oV ?_;refine oN ?_
  exact ql (j + 1, c.root + 1) (sC rfl (sC rfl (sC rfl sN))) (fun _ h => h) (by show p.lets.length - (j + 1) < p.lets.length - j; omega) ⟨by show j + 1 ≤ p.lets.length; omega, by show 0 ≤ c.root + 1; omega, by show c.root + 1 ≤ ns.length; omega, by
    rw [if_pos ⟨by simp at h5; exact h5.1.1,by omega,by omega,by rw [hp.eq] at f6; exact f6⟩] at hgo
    exact hgo⟩
 have f4 := h4;try simp only [bl] at f4
 have hjn : j = p.lets.length := by omega
 rw [hjn,List.drop_length,q38] at hgo
 refine qp (qc (qc (qo rfl (tC (cS (sR ?_))))));refine oV ?_;refine oF 3 underlying26 sizeOf24 ?_;refine oL isAgg24 ?_;refine qu trivial rfl underlying24 rfl (hsa) ?_;refine oV ?_;refine nT ?_;refine cC rfl (fun h7 => ?_) (fun h7 => ?_)
 ·
  have f7 := h7;try simp only [bl] at f7
  refine sR ?_;refine oV ?_;refine nF ?_;refine ret1 rfl rfl ?_;refine qe ⟨_,rfl,fun hw => ?_⟩
  have : (bgGo p.all p.lets 0 == some (p.all.length : Int)) = false := by rw [hgo,beq_eq_false_iff_ne]; intro h; have := Option.some.inj h; omega
  unfold qa8
  rw [this]
  simp
 have f7 := h7;try simp only [bl] at f7
 have hgo1 : bgGo p.all p.lets 0 = some (p.all.length : Int) := by rw [hgo]; congr 1; omega
 have hlow := q4c hkn hgo1
 refine kS ?_;refine oA isAgg26 sizeOf26 ?_;refine oQ call48 rfl (q3r vi vl vo va p ns hp hlow (by omega)) ?_;refine oV ?_;refine nS ?_;iterate 3 refine oV ?_
 refine nE ?_;refine ret1 rfl rfl ?_;refine qe ⟨_,rfl,fun hw => ?_⟩
 unfold qa8
 rw [hall1 hw,hgo1,hsz.1.1,hsz.2.1.1]
 rw [decide_eq_true hsz.1.2.1,decide_eq_true hsz.1.2.2,decide_eq_true hsz.2.1.2.1,decide_eq_true hsz.2.1.2.2,decide_eq_true hsz.2.2.1,decide_eq_true hsz.2.2.2]
 simp
theorem q4e (vi vl vo va : Value) (p : qv) (ns : List qd) {I : Hp} (hp : yi I vi vl vo va p ns) (hf : ∀ o ∈ ns, o.c.few 3000) :
   Fun prog 21 [.agg #[vi,vl,vo,va]] I [] (fun v _ _ => v = .bool (qa8 p)) :=
 qds (q4d vi vl vo va p ns hp (fun o ho => ⟨Nat.le_trans (hf o ho).1 (by decide),Nat.le_trans (hf o ho).2 (by decide)⟩)) fun v I' B' ⟨b,hv,hb⟩ => by rw [hv,hb hf]
theorem q4f {p : qv} {ns : List qd} {k : Int} (h : fewP p k = true) (he : ns.map qd.c = p.all) : (p.all.length : Int) ≤ k ∧ p.ins.length ≤ 8 ∧ p.lets.length ≤ 8 ∧ p.outs.length ≤ 8 ∧ (∀ o ∈ ns,o.c.few 6) ∧ ∀ o ∈ ns,o.c.name.size ≤ 60 := by
 unfold fewP at h
 rw [Bool.and_eq_true,decide_eq_true_eq,List.all_eq_true] at h
 obtain ⟨⟨h1,h2,h3,h4⟩,h5⟩ := h
 refine ⟨h1,h2,h3,h4,fun o ho => ?_,fun o ho => ?_⟩
 · have := h5 o.c (by rw [← he]; exact List.mem_map_of_mem ho)
   rw [decide_eq_true_eq] at this
   exact ⟨this.1,this.2.1⟩
 · have := h5 o.c (by rw [← he]; exact List.mem_map_of_mem ho)
   rw [decide_eq_true_eq] at this
   exact this.2.2
theorem qs1 {c : NodeC} {k m : Nat} (h : c.few k) (hk : k ≤ m) : c.few m := ⟨Nat.le_trans h.1 hk,Nat.le_trans h.2 hk⟩
def hasK (s : ByteArray) (K : KN) : Bool := (getK s K).isSome
def insZ : List ByteArray → Nat → KN → ByteArray × Int × KN
 | [],_,K => (⟨#[]⟩,0,K)
 | s :: l,i,K => if hasK s K = true then (s,7,K) else insZ l (i + 1) (K ++ [(s,⟨false,(i : Nat)⟩)])
def jr (K : KN) : List NodeC → List ByteArray → Option ByteArray × List ByteArray
 | [],L => (none,L)
 | c :: r,L => if c.kind ≠ 0 then jr K r L else if hasK c.name K = true then jr K r (L ++ [c.name]) else (some c.name,L)
def segZ (all : List NodeC) (fr hi : Int) : List NodeC := (all.take hi.toNat).drop fr.toNat
def yc (all : List NodeC) : List LetC → Nat → Int → KN → List ByteArray → ByteArray × Int × KN × List ByteArray
 | [],_,_,K,L => (⟨#[]⟩,0,K,L)
 | l :: ls, i, fr, K, L => match jr K (segZ all fr (l.root + 1)) L with
   | (some n,L') => (n,6,K,L')
   | (none,L') => if hasK l.name K = true then (l.name,7,K,L') else yc all ls (i + 1) (l.root + 1) (K ++ [(l.name,⟨true,(i : Nat)⟩)]) L'
def ousZ (K : KN) : List ByteArray → List ByteArray → ByteArray × Int × List ByteArray
 | [],L => (⟨#[]⟩,0,L)
 | s :: r,L => if hasK s K = true then ousZ K r (L ++ [s]) else (s,6,L)
structure SR where
 name : ByteArray
 err : Int
 K : KN
 L : List ByteArray
def vv (p : qv) : SR :=
 if (tZ p).isSome = true then
   if (insZ p.ins 0 []).2.1 ≠ 0 then ⟨(insZ p.ins 0 []).1,(insZ p.ins 0 []).2.1,(insZ p.ins 0 []).2.2,[]⟩
   else if (yc p.all p.lets 0 0 (insZ p.ins 0 []).2.2 []).2.1 ≠ 0 then ⟨(yc p.all p.lets 0 0 (insZ p.ins 0 []).2.2 []).1,(yc p.all p.lets 0 0 (insZ p.ins 0 []).2.2 []).2.1,(yc p.all p.lets 0 0 (insZ p.ins 0 []).2.2 []).2.2.1,(yc p.all p.lets 0 0 (insZ p.ins 0 []).2.2 []).2.2.2⟩
   else ⟨(ousZ (yc p.all p.lets 0 0 (insZ p.ins 0 []).2.2 []).2.2.1 p.outs (yc p.all p.lets 0 0 (insZ p.ins 0 []).2.2 []).2.2.2).1,(ousZ (yc p.all p.lets 0 0 (insZ p.ins 0 []).2.2 []).2.2.1 p.outs (yc p.all p.lets 0 0 (insZ p.ins 0 []).2.2 []).2.2.2).2.1,(yc p.all p.lets 0 0 (insZ p.ins 0 []).2.2 []).2.2.1,(ousZ (yc p.all p.lets 0 0 (insZ p.ins 0 []).2.2 []).2.2.1 p.outs (yc p.all p.lets 0 0 (insZ p.ins 0 []).2.2 []).2.2.2).2.2⟩
 else ⟨⟨#[]⟩,1,[],[]⟩
def tbI (b bk bu : Nat) : Tw.Item := .box b (.cells [.map (some bk),.map (some bu)].toArray 83 (0,0))
def knI (bk : Nat) (K : KN) : Tw.Item := .box bk (knO K)
def usI (bu : Nat) (L : List ByteArray) : Tw.Item := .box bu (usO L)
def putN (s : ByteArray) (p : PL) (K : KN) : KN := if hasK s K = true then K else K ++ [(s,p)]
theorem qs2 (b bk bu : Nat) (K : KN) (s : ByteArray) (p : PL) {I : Hp} : Fun prog 113 [.pointer (some ⟨b, 0, none⟩), .string s, .agg #[.bool p.l, .int .i64 p.i]] I [tbI b bk bu, knI bk K]
   (fun v I' B' => I = I' ∧ v = .int .i64 (if hasK s K = true then 7 else 0) ∧ B' = [tbI b bk bu,knI bk (putN s p K)]) := by
 unfold tbI knI
 intro w hw
 refine j5 _ func113 rfl ntmps113 rfl ?_ hw;refine sR ?_;refine vh trivial rfl rfl rfl (fun b5 => ?_);refine oV ?_;refine nU ?_;iterate 2 refine oV ?_
 refine oF 0 underlying83 sizeOf80 ?_;refine oL isAgg80 ?_;refine oV ?_;refine ql4 trivial rfl underlying80 underlying9 zeroValue78 rfl rfl (by repeat constructor) ?_;iterate 3 refine oV ?_
 refine qq trivial rfl zeroValue78 rfl (fun b7 => ?_);refine oS sizeOf78 ?_;refine oV ?_;refine nS ?_;refine oV ?_;refine nT ?_;refine cC rfl (fun h1 => ?_) (fun h1 => ?_)
 ·
  have f1 := h1;try simp only [bl] at f1
  have hh : hasK s K = true := h1
  refine sR ?_;refine oV ?_;refine nF ?_;refine ret1 rfl rfl ?_;exact fun w' hw' => ⟨I,[tbI b bk bu,knI bk K],hw'.sort (by repeat constructor),Ext.refl _ _,rfl,by rw [if_pos hh],by unfold putN; rw [if_pos hh]; rfl⟩
 have f1 := h1;try simp only [bl] at f1
 have hh : hasK s K = false := h1
 refine cK (tC (cS ?_));refine zu (m := 7) [.box b5 _] (by repeat constructor) (by kernel_rfl) rfl ?_;refine qT (i := 0) (qB 7 1) (Hp.Le.refl _) rfl rfl (oV qF) ?_;refine qT (i := 1) (qB 7 3) (Hp.Le.refl _) rfl rfl (oV qF) ?_;refine qT (i := 2) (qB 7 7) (Hp.Le.refl _) rfl rfl (oF 0 underlying83 sizeOf80 qF) ?_;refine qT (i := 4) (qB 7 23) (Hp.Le.refl _) rfl rfl (oV qF) ?_;refine qT (i := 5) (qB 7 55) (Hp.Le.refl _) rfl rfl (oA isAgg78 sizeOf78 qF) ?_;refine qO (i := 3) (qB 7 63) rfl ?_;refine oL isAgg80 ?_;refine qM (Hp.Le.refl _) ?_;refine qO (i := 6) (qB 7 127) rfl ?_;refine q2y (hh) trivial underlying80 underlying9 rfl rfl rfl (by repeat constructor) ?_;refine qM (Hp.Le.refl _) ?_;refine jc (by kernel_rfl) ?_;refine tC (sR ?_);refine oV ?_;refine nE ?_;refine ret1 rfl rfl ?_;exact fun w' hw' => ⟨I,[tbI b bk bu,knI bk (K ++ [(s,p)])],hw'.sort (by repeat constructor),Ext.refl _ _,rfl,by rw [hh]; rfl,by unfold putN; rw [hh]; rfl⟩
def useL (s : ByteArray) (K : KN) (L : List ByteArray) : List ByteArray := if hasK s K = true then L ++ [s] else L
theorem qs3 (b bk bu : Nat) (K : KN) (L : List ByteArray) (s : ByteArray) {I : Hp} (hL : L.length ≤ 1000000) : Fun prog 74 [.pointer (some ⟨b, 0, none⟩), .string s] I [tbI b bk bu, knI bk K, usI bu L]
   (fun v I' B' => I = I' ∧ v = .int .i64 (if hasK s K = true then 0 else 6) ∧ B' = [tbI b bk bu,knI bk K,usI bu (useL s K L)]) := by
 have hcl := qr5 s L
 unfold tbI knI usI
 intro w hw
 refine qz _ func74 rfl ntmps74 rfl ?_ hw;refine sR ?_;refine oV ?_;refine nU ?_;iterate 2 refine oV ?_
 refine oF 0 underlying83 sizeOf80 ?_;refine oL isAgg80 ?_;refine oV ?_;refine ql4 trivial rfl underlying80 underlying9 zeroValue78 rfl rfl (by repeat constructor) ?_;iterate 3 refine oV ?_
 refine qq trivial rfl zeroValue78 rfl (fun b5 => ?_);refine oS sizeOf78 ?_;refine oV ?_;refine nS ?_;iterate 2 refine oV ?_
 refine nT ?_;refine cC rfl (fun h1 => ?_) (fun h1 => ?_)
 ·
  have f1 := h1;try simp only [bl] at f1
  have hh : hasK s K = false := by
    unfold hasK
    cases e : (getK s K).isSome with
    | false => rfl
    | true => rw [e] at h1; cases h1
  refine sR ?_;refine oV ?_;refine nF ?_;refine ret1 rfl rfl ?_;exact fun w' hw' => ⟨I,[tbI b bk bu,knI bk K,usI bu L],hw'.sort (by repeat constructor),Ext.refl _ _,rfl,by rw [hh]; rfl,by unfold useL; rw [hh]; rfl⟩
 have f1 := h1;try simp only [bl] at f1
 have hh : hasK s K = true := by
   unfold hasK
   cases e : (getK s K).isSome with
   | true => rfl
   | false => rw [e] at h1; cases h1
 refine kS ?_;iterate 2 refine oV ?_
 refine oF 1 underlying83 sizeOf81 ?_;refine oL isAgg81 ?_;refine oV ?_;refine q2z trivial rfl underlying81 underlying9 zeroValue3 rfl rfl (by repeat constructor) ?_
 (refine qh trivial rfl rfl rfl ?_ ?_; (omega))
 refine q20 trivial underlying81 underlying9 rfl rfl rfl (by repeat constructor) ?_;refine nS ?_;refine oV ?_;refine nE ?_;refine ret1 rfl rfl ?_;exact fun w' hw' => ⟨I,[tbI b bk bu,knI bk K,usI bu (L ++ [s])],hw'.sort (by repeat constructor),Ext.refl _ _,rfl,by rw [if_pos hh],by unfold useL; rw [if_pos hh]; rfl⟩
theorem qs4 {l : List ByteArray} {i : Nat} {s : ByteArray} (h : l[i]? = some s) (K : KN) : insZ (l.drop i) i K = if hasK s K = true then (s,7,K) else insZ (l.drop (i + 1)) (i + 1) (K ++ [(s,⟨false,(i : Nat)⟩)]) := by
 obtain ⟨h1,h2⟩ := List.getElem?_eq_some_iff.1 h
 rw [List.drop_eq_getElem_cons h1,h2]
 rfl
theorem q4g (b bk bu : Nat) (K : KN) (v : Value) (l : List ByteArray) {I : Hp} (h : Slc I 1 v (scs l)) : Fun prog 72 [.pointer (some ⟨b, 0, none⟩), v] I [tbI b bk bu, knI bk K]
   (fun v I' B' => I = I' ∧ v = .tuple #[.string (insZ l 0 K).1,.int .i64 (insZ l 0 K).2.1] ∧ B' = [tbI b bk bu,knI bk (insZ l 0 K).2.2]) := by
 have hl := jq l
 have hmx := h.most
 rw [hl] at hmx
 unfold maxLen at hmx
 intro w hw
 refine qz _ func72 rfl ntmps72 rfl ?_ hw;refine sR ?_;iterate 2 refine oV ?_
 refine nU ?_;refine oV ?_;refine qu trivial rfl underlying22 rfl (h) ?_;refine oV ?_;refine oN (tC (cB ?_));refine qt (ι := Nat × KN) [0,9,10] (.cons rfl (.cons rfl (.cons rfl .nil))) (fun x => l.length - x.1) (fun x E0 => (11,.int .i64 (x.1 : Nat)) :: E0) (fun x => St w (jb [tbI b bk bu,knI bk K]) I [tbI b bk bu,knI bk x.2]) (fun x => x.1 ≤ l.length ∧ insZ l 0 K = insZ (l.drop x.1) x.1 x.2) ((0,K)) (sC rfl (sC rfl (sC rfl (sC rfl sN)))) (fun _ h => h) (⟨Nat.zero_le _,rfl⟩) ?_;rintro ⟨i,K1⟩ ⟨hi,hF⟩
 try dsimp only
 simp only at hi hF
 refine sR ?_;refine oV ?_;refine oN (tC (cS ?_));refine cC rfl (fun h1 => ?_) (fun h1 => ?_)
 ·
  have f1 := h1;try simp only [bl] at f1
  obtain ⟨s,hs⟩ : ∃ s,l[i]? = some s := ⟨l[i]'(by omega),List.getElem?_eq_getElem (by omega)⟩
  rw [qs4 hs] at hF
  refine cK (tC (cS (cB (sR ?_))));refine oV ?_;refine vk trivial rfl underlying22 sizeOf9 rfl (h) rfl (by omega) ?_;refine q7 trivial rfl isAgg9 rfl (qau h hs) ?_;iterate 2 refine oV ?_
  refine nS ?_;iterate 3 refine oV ?_
  refine qw trivial rfl (qoe) rfl (.cons rfl rfl rfl (by repeat constructor) .nil) ?_;refine oC trivial rfl call113 rfl (qs2 b bk bu K1 s ⟨false,(i : Nat)⟩) (by repeat constructor) ?_;rintro _ _ _ hxa ⟨rfl,rfl,rfl⟩;refine oV ?_;refine nS ?_;iterate 2 refine oV ?_
  refine nT ?_;refine cC rfl (fun h2 => ?_) (fun h2 => ?_)
  ·
   have f2 := h2;try simp only [bl] at f2
   have hh : hasK s K1 = true := by
     cases e : hasK s K1 with
     | true => rfl
     | false => rw [e] at h2; simp at h2
   rw [if_pos hh] at hF
   refine sR ?_;iterate 4 refine oV ?_
   refine oN (tC (cT (qb (tR (tR (qb (tR ?_)))))));refine ret2 rfl rfl rfl ?_;exact fun w' hw' => ⟨I,[tbI b bk bu,knI bk K1],(by unfold putN at hw'; rw [if_pos hh] at hw'; exact hw'.sort (by repeat constructor)),Ext.refl _ _,rfl,by rw [hF,if_pos hh],by rw [hF]⟩
  have f2 := h2;try simp only [bl] at f2
  have hh : hasK s K1 = false := by
    cases e : hasK s K1 with
    | false => rfl
    | true => rw [e] at h2; simp at h2
  rw [hh,if_neg (by decide)] at hF
  refine cK (qg (tC (cR ?_)))
  (refine qh trivial rfl rfl rfl ?_ ?_; (omega))
  refine oV ?_;refine oN ?_;exact ql (i + 1,K1 ++ [(s,⟨false,(i : Nat)⟩)]) (sC rfl (sC rfl (sC rfl (sC rfl sN)))) (fun _ h => by unfold putN at h; rw [hh] at h; exact h.sort (by repeat constructor)) (by show l.length - (i + 1) < l.length - i; omega) ⟨by show i + 1 ≤ _; omega,hF⟩
 have f1 := h1;try simp only [bl] at f1
 have hin : l.drop i = [] := List.drop_of_length_le (by omega)
 rw [hin] at hF
 refine qp (qc (qc (qo rfl (tC (sR ?_)))));iterate 2 refine oV ?_
 refine nE ?_;refine ret2 rfl rfl rfl ?_;exact fun w' hw' => ⟨I,[tbI b bk bu,knI bk K1],hw'.sort (by repeat constructor),Ext.refl _ _,rfl,by rw [hF]; rfl,by rw [hF]; rfl⟩
theorem qs5 {seg : List qd} {j : Nat} {o : qd} (h : seg[j]? = some o) (K : KN) (L : List ByteArray) : jr K ((seg.drop j).map qd.c) L = if o.c.kind ≠ 0 then jr K ((seg.drop (j + 1)).map qd.c) L else if hasK o.c.name K = true then jr K ((seg.drop (j + 1)).map qd.c) (L ++ [o.c.name]) else (some o.c.name,L) := by
 obtain ⟨h1,h2⟩ := List.getElem?_eq_some_iff.1 h
 rw [List.drop_eq_getElem_cons h1,h2]
 rfl
theorem qs6 {ls : List LetC} {i : Nat} {c : LetC} (h : ls[i]? = some c) (all : List NodeC) (fr : Int) (K : KN) (L : List ByteArray) : yc all (ls.drop i) i fr K L = match jr K (segZ all fr (c.root + 1)) L with
   | (some n,L') => (n,6,K,L')
   | (none,L') => if hasK c.name K = true then (c.name,7,K,L') else yc all (ls.drop (i + 1)) (i + 1) (c.root + 1) (K ++ [(c.name,⟨true,(i : Nat)⟩)]) L' := by
 obtain ⟨h1,h2⟩ := List.getElem?_eq_some_iff.1 h
 rw [List.drop_eq_getElem_cons h1,h2]
 rfl
theorem q4h (b bk bu : Nat) (K : KN) (L : List ByteArray) (vi vl vo va : Value) (p : qv) (ns : List qd) {I : Hp} (hp : yi I vi vl vo va p ns) (hgo : bgGo p.all p.lets 0 = some (p.all.length : Int)) (hn : p.all.length ≤ 1000) (hL : L.length ≤ 1000) :
   Fun prog 73 [.pointer (some ⟨b,0,none⟩),.agg #[vi,vl,vo,va]] I [tbI b bk bu,knI bk K,usI bu L]
   (fun v I' B' => I = I' ∧ v = .tuple #[.string (yc p.all p.lets 0 0 K L).1,.int .i64 (yc p.all p.lets 0 0 K L).2.1] ∧ B' = [tbI b bk bu,knI bk (yc p.all p.lets 0 0 K L).2.2.1,usI bu (yc p.all p.lets 0 0 K L).2.2.2]) := by
 have hsi := hp.si
 have hsl := hp.sl
 have hso := hp.so
 have hsa := hp.sa
 have hll : (p.lets.map LetC.cells).length = p.lets.length := List.length_map _
 have hla := zl ns
 have hal : p.all.length = ns.length := by rw [← hp.eq,List.length_map]
 have hmx := hsl.most
 rw [hll] at hmx
 unfold maxLen at hmx
 intro w hw
 refine qz _ func73 rfl ntmps73 rfl ?_ hw;refine sR ?_;refine vh trivial rfl rfl rfl (fun b3 => ?_);iterate 2 refine oV ?_
 refine nS ?_;refine oV ?_;refine nU ?_;refine oF 1 underlying26 sizeOf23 ?_;refine oL isAgg23 ?_;refine qu trivial rfl underlying23 rfl (hsl) ?_;refine oV ?_;refine oN (tC (cB ?_));refine qt (ι := Nat × Int × KN × List ByteArray) [0,3,14,15] (.cons rfl (.cons rfl (.cons rfl (.cons rfl .nil)))) (fun x => p.lets.length - x.1) (fun x E0 => (6,.int .i64 x.2.1) :: (16,.int .i64 (x.1 : Nat)) :: E0) (fun x => St w (jb [tbI b bk bu,knI bk K,usI bu L]) I [tbI b bk bu,knI bk x.2.2.1,usI bu x.2.2.2,.box b3 (.cells #[vi,vl,vo,va] 26 (0,0))]) (fun x => x.1 ≤ p.lets.length ∧ 0 ≤ x.2.1 ∧ x.2.1 ≤ ns.length ∧ bgGo p.all (p.lets.drop x.1) x.2.1 = some (p.all.length : Int) ∧ yc p.all p.lets 0 0 K L = yc p.all (p.lets.drop x.1) x.1 x.2.1 x.2.2.1 x.2.2.2 ∧ (x.2.2.2.length : Int) ≤ 1000 + x.2.1) ((0,0,K,L)) (sC rfl (sC rfl (sC rfl (sC rfl (sC rfl (sC rfl sN)))))) (fun _ h => h.sort (by repeat constructor)) (⟨Nat.zero_le _,Int.le_refl _,by show (0 : Int) ≤ ns.length; omega,hgo,rfl,by show (L.length : Int) ≤ 1000 + 0; omega⟩) ?_;rintro ⟨i,fr,K1,L1⟩ ⟨hi,hfr0,hfr1,hg,hF,hL1⟩
 try dsimp only
 simp only at hi hfr0 hfr1 hg hF hL1
 refine sR ?_;refine oV ?_;refine oN (tC (cS ?_));refine cC rfl (fun h1 => ?_) (fun h1 => ?_)
 ·
  have f1 := h1;try simp only [bl] at f1
  obtain ⟨c,hc⟩ : ∃ c,p.lets[i]? = some c := ⟨p.lets[i]'(by omega),List.getElem?_eq_getElem (by omega)⟩
  have hdr : p.lets.drop i = c :: p.lets.drop (i + 1) := by rw [List.drop_eq_getElem_cons (List.getElem?_eq_some_iff.1 hc).1,(List.getElem?_eq_some_iff.1 hc).2]
  rw [qs6 hc] at hF
  rw [hdr,qfb] at hg
  by_cases hcd : vt c.name = true ∧ fr ≤ c.root ∧ c.root < p.all.length ∧ begZ p.all fr p.all.length c.root = fr
  case' neg => rw [if_neg hcd] at hg; cases hg
  rw [if_pos hcd] at hg
  obtain ⟨_,c2,c3,_⟩ := hcd
  obtain ⟨seg,hseg⟩ : ∃ seg,seg = (ns.take (c.root + 1).toNat).drop fr.toNat := ⟨_,rfl⟩
  have hsegl : (seg.length : Int) = c.root + 1 - fr := by rw [hseg,List.length_drop,List.length_take]; omega
  have hcut : Slc I 8 (yt va fr.toNat (c.root + 1).toNat 8) (nds seg) := by
    have h9 := hsa.cut (lo := fr.toNat) (hi := (c.root + 1).toNat) (by omega) (by omega)
    have e9 : nds seg = ((nds ns).take (c.root + 1).toNat).drop fr.toNat := by rw [hseg]; unfold nds; rw [List.map_drop,List.map_take]
    rw [e9]; exact h9
  have hsc : segZ p.all fr (c.root + 1) = seg.map qd.c := by rw [hseg,← hp.eq]; unfold segZ; rw [List.map_drop,List.map_take]
  have hsok : ∀ o ∈ seg,o.ok I := fun o ho => hp.ok o (by rw [hseg] at ho; exact List.mem_of_mem_take (List.mem_of_mem_drop ho))
  rw [hsc] at hF
  have hnl := zl seg
  refine cK (tC (cS (cB (sR ?_))));refine oV ?_;refine vk trivial rfl underlying23 sizeOf39 rfl (hsl) rfl (by omega) ?_;refine jz trivial rfl isAgg39 sizeOf39 rfl rfl (qcw hsl hc) ?_;refine qq trivial rfl zeroValue39 rfl (fun b8 => ?_);refine oV ?_;refine oS sizeOf39 ?_;refine nU ?_;refine oF 3 underlying26 sizeOf24 ?_;refine oL isAgg24 ?_;refine oV ?_;refine oF 1 underlying39 sizeOf3 ?_;refine oL isAgg3 ?_
  (refine qh trivial rfl rfl rfl ?_ ?_; (omega))
  refine qnt trivial rfl underlying24 sizeOf37 rfl (hsa) rfl rfl (by omega) ?_;refine qu trivial rfl underlying24 rfl (hcut) ?_;refine oV ?_;refine oN (tC (cB ?_));refine qt (ι := Nat × List ByteArray) [0,3,7,8,14,15,16,27,28] (.cons rfl (.cons rfl (.cons rfl (.cons rfl (.cons rfl (.cons rfl (.cons rfl (.cons rfl (.cons rfl .nil))))))))) (fun x => seg.length - x.1) (fun x E0 => (29,.int .i64 (x.1 : Nat)) :: E0) (fun x => St w (jb [tbI b bk bu,knI bk K,usI bu L]) I [tbI b bk bu,knI bk K1,usI bu x.2,.box b8 (.cells #[.string c.name,.int .i64 c.root] 39 (0,0)),.box b3 (.cells #[vi,vl,vo,va] 26 (0,0))]) (fun x => x.1 ≤ seg.length ∧ jr K1 (seg.map qd.c) L1 = jr K1 ((seg.drop x.1).map qd.c) x.2 ∧ x.2.length ≤ L1.length + x.1) ((0,L1)) (sC rfl (sC rfl (sC rfl (sC rfl (sC rfl (sC rfl (sC rfl (sC rfl (sC rfl (sC rfl sN)))))))))) (fun _ h => h.sort (by repeat constructor)) (⟨Nat.zero_le _,rfl,Nat.le_refl _⟩) ?_;rintro ⟨j,L2⟩ ⟨hj,hF2,hL2⟩
  try dsimp only
  simp only at hj hF2 hL2
  refine sR ?_;refine oV ?_;refine oN (tC (cS ?_));refine cC rfl (fun h2 => ?_) (fun h2 => ?_)
  ·
   have f2 := h2;try simp only [bl] at f2
   obtain ⟨o,ho⟩ : ∃ o,seg[j]? = some o := ⟨seg[j]'(by omega),List.getElem?_eq_getElem (by omega)⟩
   have hom := List.mem_of_getElem? ho
   have hw1 : Ws I o.vn o.c.n := (hsok o hom).1
   have hw2 : Ws I o.vd o.c.d := (hsok o hom).2
   rw [qs5 ho] at hF2
   refine cK (tC (cS (cB (sR ?_))));refine vk trivial rfl underlying24 sizeOf37 rfl (hcut) rfl (by omega) ?_;refine jz trivial rfl isAgg37 sizeOf37 rfl rfl (qav hcut ho) ?_;refine qq trivial rfl zeroValue37 rfl (fun b10 => ?_);refine oS sizeOf37 ?_;refine nU ?_;refine oF 0 underlying37 sizeOf3 ?_;refine oL isAgg3 ?_;refine oV ?_;refine nT ?_;refine cC rfl (fun h3 => ?_) (fun h3 => ?_)
   ·
    have f3 := h3;try simp only [bl] at f3
    have hk0 : o.c.kind ≠ 0 := by simpa using h3
    rw [if_pos hk0] at hF2
    refine qp (qc (qo rfl (tC (cR ?_))))
    (refine qh trivial rfl rfl rfl ?_ ?_; (omega))
    refine oV ?_;refine oN ?_
    (exact ql (j + 1,L2) (sC rfl (sC rfl (sC rfl (sC rfl (sC rfl (sC rfl (sC rfl (sC rfl (sC rfl (sC rfl sN)))))))))) (fun _ h => h.sort (by repeat constructor)) (by show seg.length - (j + 1) < seg.length - j; omega) ⟨by show j + 1 ≤ _; omega,hF2,by show L2.length ≤ L1.length + (j + 1); omega⟩)
   have f3 := h3;try simp only [bl] at f3
   have hk0 : o.c.kind = 0 := by simpa using h3
   rw [if_neg (not_not_intro hk0)] at hF2
   refine kS ?_;refine oV ?_;refine oF 4 underlying37 sizeOf9 ?_;refine oL isAgg9 ?_;refine oC trivial rfl call74 rfl (qs3 b bk bu K1 L2 o.c.name (by omega)) (by repeat constructor) ?_;rintro _ _ _ hxu ⟨rfl,rfl,rfl⟩;refine oV ?_;refine nS ?_;iterate 2 refine oV ?_
   refine nT ?_;refine cC rfl (fun h4 => ?_) (fun h4 => ?_)
   ·
    have f4 := h4;try simp only [bl] at f4
    have hh : hasK o.c.name K1 = false := by
      cases e : hasK o.c.name K1 with
      | false => rfl
      | true => rw [e] at h4; simp at h4
    rw [hh,if_neg (by decide)] at hF2
    rw [hF2] at hF
    refine sR ?_;refine oF 4 underlying37 sizeOf9 ?_;refine oL isAgg9 ?_;iterate 3 refine oV ?_
    refine oN (tC (cT (qb (tR (tR (qb (tR (qb (tR (tR (qb (tR ?_))))))))))));refine ret2 rfl rfl rfl ?_;exact fun w' hw' => ⟨I,[tbI b bk bu,knI bk K1,usI bu L2],(by unfold useL at hw'; rw [hh,if_neg (by decide)] at hw'; exact hw'.sort (by repeat constructor)),Ext.refl _ _,rfl,by rw [hF,hh]; rfl,by rw [hF]⟩
   have f4 := h4;try simp only [bl] at f4
   have hh : hasK o.c.name K1 = true := by
     cases e : hasK o.c.name K1 with
     | true => rfl
     | false => rw [e] at h4; simp at h4
   rw [if_pos hh] at hF2
   refine cK (qg (tC (cR ?_)))
   (refine qh trivial rfl rfl rfl ?_ ?_; (omega))
   refine oV ?_;refine oN ?_
   (exact ql (j + 1,L2 ++ [o.c.name]) (sC rfl (sC rfl (sC rfl (sC rfl (sC rfl (sC rfl (sC rfl (sC rfl (sC rfl (sC rfl sN)))))))))) (fun _ h => by unfold useL at h; rw [if_pos hh] at h; exact h.sort (by repeat constructor)) (by show seg.length - (j + 1) < seg.length - j; omega) ⟨by show j + 1 ≤ _; omega,hF2,by show (L2 ++ [o.c.name]).length ≤ L1.length + (j + 1); rw [List.length_append]; show L2.length + 1 ≤ _; omega⟩)
  have f2 := h2;try simp only [bl] at f2
  have hjn : seg.drop j = [] := List.drop_of_length_le (by omega)
  rw [hjn] at hF2
  have hF3 : jr K1 (seg.map qd.c) L1 = (none,L2) := hF2
  rw [hF3] at hF
  dsimp only at hF
  refine qp (qc (qc (qo rfl (tC (sR ?_)))));refine oF 1 underlying39 sizeOf3 ?_;refine oL isAgg3 ?_
  (refine qh trivial rfl rfl rfl ?_ ?_; (omega))
  refine oV ?_;refine nS ?_;refine oV ?_;refine oF 0 underlying39 sizeOf9 ?_;refine oL isAgg9 ?_;refine oV ?_;refine qw trivial rfl (qoe) rfl (.cons rfl rfl rfl (by repeat constructor) (.cons rfl rfl rfl (by repeat constructor) .nil)) ?_;refine oC trivial rfl call113 rfl (qs2 b bk bu K1 c.name ⟨true,(i : Nat)⟩) (by repeat constructor) ?_;rintro _ _ _ hxa ⟨rfl,rfl,rfl⟩;refine oV ?_;refine nS ?_;iterate 2 refine oV ?_
  refine nT ?_;refine cC rfl (fun h5 => ?_) (fun h5 => ?_)
  ·
   have f5 := h5;try simp only [bl] at f5
   have hh : hasK c.name K1 = true := by
     cases e : hasK c.name K1 with
     | true => rfl
     | false => rw [e] at h5; simp at h5
   rw [if_pos hh] at hF
   refine sR ?_;refine oF 0 underlying39 sizeOf9 ?_;refine oL isAgg9 ?_;iterate 3 refine oV ?_
   refine oN (tC (cT (qb (tR (tR (qb (tR ?_)))))));refine ret2 rfl rfl rfl ?_;exact fun w' hw' => ⟨I,[tbI b bk bu,knI bk K1,usI bu L2],(by unfold putN at hw'; rw [if_pos hh] at hw'; exact hw'.sort (by repeat constructor)),Ext.refl _ _,rfl,by rw [hF,if_pos hh],by rw [hF]⟩
  have f5 := h5;try simp only [bl] at f5
  have hh : hasK c.name K1 = false := by
    cases e : hasK c.name K1 with
    | false => rfl
    | true => rw [e] at h5; simp at h5
  rw [hh,if_neg (by decide)] at hF
  refine cK (qg (tC (cR ?_)))
  (refine qh trivial rfl rfl rfl ?_ ?_; (omega))
  refine oV ?_;refine oN ?_;exact ql (i + 1,c.root + 1,K1 ++ [(c.name,⟨true,(i : Nat)⟩)],L2) (sC rfl (sC rfl (sC rfl (sC rfl (sC rfl (sC rfl sN)))))) (fun _ h => by unfold putN at h; rw [hh,if_neg (by decide)] at h; exact h.sort (by repeat constructor)) (by show p.lets.length - (i + 1) < p.lets.length - i; omega) ⟨by show i + 1 ≤ _; omega,by show 0 ≤ c.root + 1; omega,by show c.root + 1 ≤ _; omega,hg,hF,by show (L2.length : Int) ≤ 1000 + (c.root + 1); omega⟩
 have f1 := h1;try simp only [bl] at f1
 have hin : p.lets.drop i = [] := List.drop_of_length_le (by omega)
 rw [hin] at hF
 refine qp (qc (qc (qo rfl (tC (sR ?_)))));iterate 2 refine oV ?_
 refine nE ?_;refine ret2 rfl rfl rfl ?_;exact fun w' hw' => ⟨I,[tbI b bk bu,knI bk K1,usI bu L1],hw'.sort (by repeat constructor),Ext.refl _ _,rfl,by rw [hF]; rfl,by rw [hF]; rfl⟩
theorem qme {p : qv} {l : List (ByteArray × Ex)} (hr : qa5 p l) : bgGo p.all p.lets 0 = some (p.all.length : Int) := by
 have hg := qmb p.all l 0 hr.ok (fun j c hj => by rw [hr.all,Nat.zero_add]; exact hj) (by rw [Nat.zero_add,← hr.all]; exact Nat.le_refl _)
 rw [← hr.lets,← hr.all,Nat.zero_add] at hg
 exact hg
theorem qmf (K : KN) : ∀ (r : List NodeC) (L : List ByteArray), (jr K r L).2.length ≤ L.length + r.length
 | [],L => Nat.le_refl _
 | c :: r, L => by
   have h1 := qmf K r L
   have h2 := qmf K r (L ++ [c.name])
   rw [List.length_append] at h2
   have h3 : [c.name].length = 1 := rfl
   unfold jr
   rw [List.length_cons]
   split
   · omega
   · split
     · omega
     · show L.length ≤ _; omega
theorem qs7 (all : List NodeC) : ∀ (ls : List LetC) (i : Nat) (fr : Int) (K : KN) (L : List ByteArray), (yc all ls i fr K L).2.2.2.length ≤ L.length + ls.length * all.length
 | [],i,fr,K,L => by show L.length ≤ _; omega
 | l :: ls, i, fr, K, L => by
   have h1 := qmf K (segZ all fr (l.root + 1)) L
   have h2 : (segZ all fr (l.root + 1)).length ≤ all.length := by unfold segZ; rw [List.length_drop,List.length_take]; omega
   unfold yc
   rw [List.length_cons,Nat.succ_mul]
   cases hn : jr K (segZ all fr (l.root + 1)) L with
   | mk e L' =>
     rw [hn] at h1
     cases e with
     | some n => show L'.length ≤ _; dsimp only at h1; omega
     | none =>
       dsimp only at h1 ⊢
       split
       · show L'.length ≤ _; omega
       · have h3 := qs7 all ls (i + 1) (l.root + 1) (K ++ [(l.name, ⟨true, (i : Nat)⟩)]) L'
         omega
theorem qs8 {l : List ByteArray} {i : Nat} {s : ByteArray} (h : l[i]? = some s) (K : KN) (L : List ByteArray) : ousZ K (l.drop i) L = if hasK s K = true then ousZ K (l.drop (i + 1)) (L ++ [s]) else (s,6,L) := by
 obtain ⟨h1,h2⟩ := List.getElem?_eq_some_iff.1 h
 rw [List.drop_eq_getElem_cons h1,h2]
 rfl
theorem qgm {p : qv} (h : (tZ p).isSome = false) : vv p = ⟨⟨#[]⟩,1,[],[]⟩ := by unfold vv; rw [h]; rfl
theorem qgn {p : qv} {n : ByteArray} {e : Int} {K : KN} (h : (tZ p).isSome = true) (hi : insZ p.ins 0 [] = (n,e,K)) (he : e ≠ 0) : vv p = ⟨n,e,K,[]⟩ := by unfold vv; rw [if_pos h,hi,if_pos he]
theorem qfc {p : qv} {n m : ByteArray} {e : Int} {K K2 : KN} {L : List ByteArray} (h : (tZ p).isSome = true) (hi : insZ p.ins 0 [] = (n,0,K)) (hl : yc p.all p.lets 0 0 K [] = (m,e,K2,L)) (he : e ≠ 0) : vv p = ⟨m,e,K2,L⟩ := by
 unfold vv
 rw [if_pos h,hi,if_neg (by simp),hl,if_pos he]
theorem qgo {p : qv} {n m : ByteArray} {K K2 : KN} {L : List ByteArray} (h : (tZ p).isSome = true) (hi : insZ p.ins 0 [] = (n,0,K)) (hl : yc p.all p.lets 0 0 K [] = (m,0,K2,L)) : vv p = ⟨(ousZ K2 p.outs L).1,(ousZ K2 p.outs L).2.1,K2,(ousZ K2 p.outs L).2.2⟩ := by
 unfold vv
 rw [if_pos h,hi,if_neg (by simp),hl,if_neg (by simp)]
theorem qs9 (vi vl vo va : Value) (p : qv) (ns : List qd) {I : Hp} (hp : yi I vi vl vo va p ns) (hf : ∀ o ∈ ns, o.c.few 2000000) :
   Fun prog 41 [.agg #[vi,vl,vo,va]] I [] (fun v I' B' => I = I' ∧ ∃ b bk bu,v = .tuple #[.pointer (some ⟨b,0,none⟩),.string (vv p).name,.int .i64 (vv p).err] ∧ B' = [tbI b bk bu,knI bk (vv p).K,usI bu (vv p).L]) := by
 have hsi := hp.si
 have hsl := hp.sl
 have hso := hp.so
 have hsa := hp.sa
 have hlo := jq p.outs
 intro w hw
 refine qn _ func41 rfl ntmps41 rfl ?_ hw;refine sR ?_;refine vh trivial rfl rfl rfl (fun b1 => ?_);iterate 3 refine oV ?_
 refine nS ?_;refine qrz trivial rfl (fun b13 => ?_);refine qrz trivial rfl (fun b14 => ?_);refine qw trivial rfl (qwd) rfl (.cons rfl rfl rfl (by repeat constructor) (.cons rfl rfl rfl (by repeat constructor) .nil)) ?_;refine vh trivial rfl rfl rfl (fun b16 => ?_);refine oV ?_;refine nU ?_;refine oA isAgg26 sizeOf26 ?_;refine oQ call26 rfl (qq1 vi vl vo va p ns hp hf) ?_;refine oV ?_;refine nT ?_;refine cC rfl (fun h1 => ?_) (fun h1 => ?_)
 ·
  have f1 := h1;try simp only [bl] at f1
  have ht : (tZ p).isSome = false := by simpa using h1
  refine sR ?_;iterate 4 refine oV ?_
  refine nF ?_;refine ret3 rfl rfl rfl rfl ?_;exact fun w' hw' => ⟨I,[tbI b16 b13 b14,knI b13 [],usI b14 []],hw'.sort (by repeat constructor),Ext.refl _ _,rfl,b16,b13,b14,by rw [qgm ht],by rw [qgm ht]⟩
 have f1 := h1;try simp only [bl] at f1
 have ht : (tZ p).isSome = true := by
   cases e : (tZ p).isSome with
   | true => rfl
   | false => rw [e] at h1; cases h1
 obtain ⟨l,hl⟩ := qex.1 ht
 have hgo := qme hl
 have hfe := hl.few
 have hlb : p.lets.length ≤ 40 := by rw [hl.lets,qdn]; exact hl.few.1
 have hob := hl.outs.2.2
 have hll0 := qs7 p.all p.lets 0 0 (insZ p.ins 0 []).2.2 []
 have hmul : p.lets.length * p.all.length ≤ 40 * 400 := Nat.mul_le_mul hlb hfe.2
 refine cK (tC (cS (sR ?_)));refine oV ?_;refine oF 0 underlying26 sizeOf22 ?_;refine oL isAgg22 ?_;refine quh (S' := St w [] I [tbI b16 b13 b14,knI b13 [],usI b14 [],.box b1 (.cells #[vi,vl,vo,va] 26 (0,0))]) (fun _ h => h.sort (by repeat constructor)) ?_;refine oC trivial rfl call72 rfl (q4g b16 b13 b14 [] vi p.ins hsi) (by repeat constructor) ?_;rintro _ _ _ hxi ⟨rfl,rfl,rfl⟩;iterate 5 refine oV ?_
 refine oN (tC (cS ?_))
 generalize hi : insZ p.ins 0 [] = ri at *
 obtain ⟨n1,e1,K1⟩ := ri
 dsimp only at hll0 ⊢
 refine cR ?_;iterate 2 refine oV ?_
 refine nT ?_;refine cC rfl (fun h2 => ?_) (fun h2 => ?_)
 ·
  have f2 := h2;try simp only [bl] at f2
  have he1 : e1 ≠ 0 := by simpa using h2
  refine sR ?_;iterate 6 refine oV ?_
  refine nF ?_;refine ret3 rfl rfl rfl rfl ?_;exact fun w' hw' => ⟨I,[tbI b16 b13 b14,knI b13 K1,usI b14 []],hw'.sort (by repeat constructor),Ext.refl _ _,rfl,b16,b13,b14,by rw [qgn ht hi he1]; rfl,by rw [qgn ht hi he1]⟩
 have f2 := h2;try simp only [bl] at f2
 obtain rfl : e1 = 0 := by simpa using h2
 refine cK (tC (cS (sR ?_)));refine oV ?_;refine oA isAgg26 sizeOf26 ?_;refine oC trivial rfl call73 rfl (q4h b16 b13 b14 K1 [] vi vl vo va p ns hp hgo (by omega) (Nat.zero_le _)) (by repeat constructor) ?_;rintro _ _ _ hxl ⟨rfl,rfl,rfl⟩;iterate 5 refine oV ?_
 refine oN (tC (cS ?_))
 generalize hz : yc p.all p.lets 0 0 K1 [] = rz at *
 obtain ⟨m1,e2,K2,L2⟩ := rz
 dsimp only at hll0 ⊢
 refine cR ?_;iterate 2 refine oV ?_
 refine nT ?_;refine cC rfl (fun h3 => ?_) (fun h3 => ?_)
 ·
  have f3 := h3;try simp only [bl] at f3
  have he2 : e2 ≠ 0 := by simpa using h3
  refine sR ?_;iterate 6 refine oV ?_
  refine nF ?_;refine ret3 rfl rfl rfl rfl ?_;exact fun w' hw' => ⟨I,[tbI b16 b13 b14,knI b13 K2,usI b14 L2],hw'.sort (by repeat constructor),Ext.refl _ _,rfl,b16,b13,b14,by rw [qfc ht hi hz he2]; rfl,by rw [qfc ht hi hz he2]⟩
 have f3 := h3;try simp only [bl] at f3
 obtain rfl : e2 = 0 := by simpa using h3
 have hrz := qgo ht hi hz
 have hl2 : L2.length ≤ 16000 := by
   have h9 : ([] : List ByteArray).length = 0 := rfl
   omega
 refine cK (tC (cS (sR ?_)));refine oF 2 underlying26 sizeOf22 ?_;refine oL isAgg22 ?_;refine qu trivial rfl underlying22 rfl (hso) ?_;refine oV ?_;refine oN (tC (cB ?_));refine qt (ι := Nat × List ByteArray) [5,45,46] (.cons rfl (.cons rfl (.cons rfl .nil))) (fun x => p.outs.length - x.1) (fun x E0 => (47,.int .i64 (x.1 : Nat)) :: E0) (fun x => St w [] I [tbI b16 b13 b14,knI b13 K2,usI b14 x.2,.box b1 (.cells #[vi,vl,vo,va] 26 (0,0))]) (fun x => x.1 ≤ p.outs.length ∧ ousZ K2 p.outs L2 = ousZ K2 (p.outs.drop x.1) x.2 ∧ x.2.length ≤ L2.length + x.1) ((0,L2)) (sC rfl (sC rfl (sC rfl (sC rfl sN)))) (fun _ h => h.sort (by repeat constructor)) (⟨Nat.zero_le _,rfl,Nat.le_refl _⟩) ?_;rintro ⟨i,L3⟩ ⟨hi3,hF,hL3⟩
 try dsimp only
 simp only at hi3 hF hL3
 refine sR ?_;refine oV ?_;refine oN (tC (cS ?_));refine cC rfl (fun h4 => ?_) (fun h4 => ?_)
 ·
  have f4 := h4;try simp only [bl] at f4
  obtain ⟨s,hs⟩ : ∃ s,p.outs[i]? = some s := ⟨p.outs[i]'(by omega),List.getElem?_eq_getElem (by omega)⟩
  rw [qs8 hs] at hF
  refine cK (tC (cS (cB (sR ?_))));refine vk trivial rfl underlying22 sizeOf9 rfl (hso) rfl (by omega) ?_;refine q7 trivial rfl isAgg9 rfl (qau hso hs) ?_;refine oV ?_;refine nS ?_;iterate 2 refine oV ?_
  refine oC trivial rfl call74 rfl (qs3 b16 b13 b14 K2 L3 s (by omega)) (by repeat constructor) ?_;rintro _ _ _ hxu ⟨rfl,rfl,rfl⟩;refine oV ?_;refine nS ?_;iterate 2 refine oV ?_
  refine nT ?_;refine cC rfl (fun h5 => ?_) (fun h5 => ?_)
  ·
   have f5 := h5;try simp only [bl] at f5
   have hh : hasK s K2 = false := by
     cases e : hasK s K2 with
     | false => rfl
     | true => rw [e] at h5; simp at h5
   rw [hh,if_neg (by decide)] at hF
   rw [hF] at hrz
   refine sR ?_;iterate 6 refine oV ?_
   refine oN (tC (cT (qb (tR (tR (qb (tR ?_)))))));refine ret3 rfl rfl rfl rfl ?_;exact fun w' hw' => ⟨I,[tbI b16 b13 b14,knI b13 K2,usI b14 L3],(by unfold useL at hw'; rw [hh,if_neg (by decide)] at hw'; exact hw'.sort (by repeat constructor)),Ext.refl _ _,rfl,b16,b13,b14,by rw [hrz,hh]; rfl,by rw [hrz]⟩
  have f5 := h5;try simp only [bl] at f5
  have hh : hasK s K2 = true := by
    cases e : hasK s K2 with
    | true => rfl
    | false => rw [e] at h5; simp at h5
  rw [if_pos hh] at hF
  refine cK (qg (tC (cR ?_)))
  (refine qh trivial rfl rfl rfl ?_ ?_; (omega))
  refine oV ?_;refine oN ?_;exact ql (i + 1,L3 ++ [s]) (sC rfl (sC rfl (sC rfl (sC rfl sN)))) (fun _ h => by unfold useL at h; rw [if_pos hh] at h; exact h.sort (by repeat constructor)) (by show p.outs.length - (i + 1) < p.outs.length - i; omega) ⟨by show i + 1 ≤ _; omega,hF,by show (L3 ++ [s]).length ≤ L2.length + (i + 1); rw [List.length_append]; show L3.length + 1 ≤ _; omega⟩
 have f4 := h4;try simp only [bl] at f4
 have hin : p.outs.drop i = [] := List.drop_of_length_le (by omega)
 rw [hin] at hF
 have hF2 : ousZ K2 p.outs L2 = (⟨#[]⟩,0,L3) := hF
 rw [hF2] at hrz
 refine qp (qc (qc (qo rfl (tC (sR ?_)))));iterate 4 refine oV ?_
 refine nE ?_;refine ret3 rfl rfl rfl rfl ?_;exact fun w' hw' => ⟨I,[tbI b16 b13 b14,knI b13 K2,usI b14 L3],hw'.sort (by repeat constructor),Ext.refl _ _,rfl,b16,b13,b14,by rw [hrz],by rw [hrz]⟩
theorem q4i (vi vl vo va : Value) (p : qv) (ns : List qd) {I : Hp} (hp : yi I vi vl vo va p ns) (hf : ∀ o ∈ ns, o.c.few 2000000) :
   Fun prog 17 [.agg #[vi,vl,vo,va]] I [] (fun v _ _ => v = .tuple #[.string (vv p).name,.int .i64 (vv p).err]) := by
 have hsi := hp.si
 have hsl := hp.sl
 have hso := hp.so
 have hsa := hp.sa
 intro w hw
 refine qn _ func17 rfl ntmps17 rfl ?_ hw;refine sR ?_;refine vh trivial rfl rfl rfl (fun b1 => ?_);iterate 2 refine oV ?_
 refine nS ?_;refine oA isAgg26 sizeOf26 ?_;refine oC trivial rfl call41 rfl (qs9 vi vl vo va p ns hp hf) (by repeat constructor) ?_;rintro _ _ _ hxr ⟨rfl,b,bk,bu,rfl,rfl⟩;iterate 6 refine oV ?_
 refine nS ?_;iterate 4 refine oV ?_
 refine nE ?_;refine ret2 rfl rfl rfl ?_;exact qe rfl
def yr (p : qv) (s : ByteArray) : Bool × Int × Bool := if (vv p).err = 0 ∧ hasK s (vv p).K = true then (((getK s (vv p).K).getD ⟨false,0⟩).l,((getK s (vv p).K).getD ⟨false,0⟩).i,true) else (false,0,false)
theorem q4j (vi vl vo va : Value) (p : qv) (ns : List qd) (s : ByteArray) {I : Hp} (hp : yi I vi vl vo va p ns) (hf : ∀ o ∈ ns, o.c.few 2000000) :
   Fun prog 19 [.agg #[vi,vl,vo,va],.string s] I [] (fun v _ _ => v = .tuple #[.bool (yr p s).1,.int .i64 (yr p s).2.1,.bool (yr p s).2.2]) := by
 have hsi := hp.si
 have hsl := hp.sl
 have hso := hp.so
 have hsa := hp.sa
 intro w hw
 refine qz _ func19 rfl ntmps19 rfl ?_ hw;refine sR ?_;refine vh trivial rfl rfl rfl (fun b2 => ?_);iterate 3 refine oV ?_
 refine nS ?_;refine oA isAgg26 sizeOf26 ?_;refine oC trivial rfl call41 rfl (qs9 vi vl vo va p ns hp hf) (by repeat constructor) ?_;rintro _ _ _ hxr ⟨rfl,b,bk,bu,rfl,rfl⟩;iterate 7 refine oV ?_
 refine nS ?_;iterate 2 refine oV ?_
 refine oF 0 underlying83 sizeOf80 ?_;refine oL isAgg80 ?_;refine oV ?_;refine ql4 trivial rfl underlying80 underlying9 zeroValue78 rfl rfl (by repeat constructor) ?_;iterate 3 refine oV ?_
 refine qq trivial rfl zeroValue78 rfl (fun b10 => ?_);refine oS sizeOf78 ?_;refine oV ?_;refine nU ?_;iterate 2 refine oV ?_
 refine' oZ (fun hb29 => ?_) ?_;rotate_left
 ·
  have fb29 := hb29
  try simp only [bl] at fb29
  iterate 2 refine gV hb29 ?_
  refine oN ?_;exact qa rfl
 refine nT ?_;refine cC rfl (fun h1 => ?_) (fun h1 => ?_)
 ·
  have f1 := h1;try simp only [bl] at f1
  have hz : yr p s = (false, 0, false) := if_neg (fun hh => by
    have h9 := h1
    rw [hh.1] at h9
    have h8 : (getK s (vv p).K).isSome = true := hh.2
    rw [h8] at h9
    cases h9)
  refine sR ?_;iterate 3 refine oV ?_
  refine nF ?_;refine ret3 rfl rfl rfl rfl ?_;refine qe ?_; rw [hz]
 have f1 := h1;try simp only [bl] at f1
 have hz : yr p s = (((getK s (vv p).K).getD ⟨false, 0⟩).l, ((getK s (vv p).K).getD ⟨false, 0⟩).i, true) := if_pos (by
   have h9 := h1
   simp only [Bool.or_eq_false_iff,Bool.not_eq_false'] at h9
   exact ⟨by simpa using h9.1,h9.2⟩)
 refine cK (tC (cS ?_));refine jf (by kernel_rfl) (by kernel_rfl) (fun _ h => h.drawn) ?_;refine oF 0 underlying78 sizeOf4 ?_;refine oL isAgg4 ?_;refine oF 1 underlying78 sizeOf3 ?_;refine oL isAgg3 ?_;iterate 3 refine oV ?_
 refine nE ?_;refine ret3 rfl rfl rfl rfl ?_;refine qe ?_; rw [hz]
def strs (l : List ByteArray) : List Value := l.map Value.string
theorem qta (l : List ByteArray) (s : ByteArray) : strs (l ++ [s]) = strs l ++ [.string s] := by simp [strs]
theorem q4k {l : List ByteArray} {i : Nat} {s : ByteArray} (h : l[i]? = some s) : (strs l)[i]? = some (.string s) := by unfold strs; rw [List.getElem?_map,h]; rfl
def snI (u : Value) (l : List ByteArray) : Tw.Item := .row u 9 1 l.length (strs l)
def memB (s : ByteArray) : List ByteArray → Bool
 | [] => false
 | x :: l => decide (s = x) || memB s l
theorem q4l {l : List ByteArray} {i : Nat} {x : ByteArray} (h : l[i]? = some x) (s : ByteArray) : memB s (l.drop i) = (decide (s = x) || memB s (l.drop (i + 1))) := by
 obtain ⟨h1,h2⟩ := List.getElem?_eq_some_iff.1 h
 rw [List.drop_eq_getElem_cons h1,h2]
 rfl
theorem qmg {a b : ByteArray} (h : a.toList = b.toList) : a = b := by
 rw [qb0,qb0] at h
 exact ByteArray.ext (Array.ext' h)
theorem qil (u : Value) (l : List ByteArray) (s : ByteArray) {I : Hp} (hl : l.length ≤ 1000000) : Fun prog 108 [u,.string s] I [snI u l] (fun v I' B' => I = I' ∧ v = .bool (memB s l) ∧ B' = [snI u l]) := by
 unfold snI
 intro w hw
 refine qz _ func108 rfl ntmps108 rfl ?_ hw;refine sR ?_;refine oV ?_;refine nU ?_;refine oV ?_;refine oN (tC (cB ?_));refine qt (ι := Nat) [0,1] (.cons rfl (.cons rfl .nil)) (fun x => l.length - x) (fun x E0 => (5,.int .i64 (x : Nat)) :: E0) (fun x => St w (jb [Item.row u 9 1 l.length (strs l)]) I [.row u 9 1 l.length (strs l)]) (fun x => x ≤ l.length ∧ memB s l = memB s (l.drop x)) (0) (sC rfl (sC rfl (sC rfl sN))) (fun _ h => h) (⟨Nat.zero_le _,rfl⟩) ?_;rintro i ⟨hi,hF⟩
 try dsimp only
 refine cS (sR ?_);iterate 2 refine oV ?_
 refine yw trivial rfl underlying22 rfl (by repeat constructor) ?_;refine oV ?_;refine nT ?_;refine cC rfl (fun h1 => ?_) (fun h1 => ?_)
 ·
  have f1 := h1;try simp only [bl] at f1
  obtain ⟨x,hx⟩ : ∃ x,l[i]? = some x := ⟨l[i]'(by omega),List.getElem?_eq_getElem (by omega)⟩
  rw [q4l hx] at hF
  refine cK (tC (cS (cB (sR ?_))));iterate 2 refine oV ?_
  refine zv trivial rfl underlying22 sizeOf9 rfl (by repeat constructor) rfl (by omega) ?_;refine j0 trivial rfl isAgg9 (by repeat constructor) rfl (by rw [Int.toNat_natCast,Nat.mul_one]; exact q4k hx) ?_;iterate 2 refine oV ?_
  refine nT ?_;refine cC rfl (fun h2 => ?_) (fun h2 => ?_)
  ·
   have f2 := h2;try simp only [bl] at f2
   skip
   refine sR ?_;refine oV ?_;refine oN (tC (cT (qb (tR (tR (qb (tR ?_)))))));refine ret1 rfl rfl ?_;exact fun w' hw' => ⟨I,[snI u l],hw',Ext.refl _ _,rfl,by rw [hF,decide_eq_true (show s = x from (qmg f2).symm)]; rfl,rfl⟩
  have f2 := h2;try simp only [bl] at f2
  refine cK (qg (tC (cR ?_)));refine oV ?_
  (refine qh trivial rfl rfl rfl ?_ ?_; (omega))
  refine oV ?_;refine oN ?_;exact ql (i + 1) (sC rfl (sC rfl (sC rfl sN))) (fun _ h => h) (by show l.length - (i + 1) < l.length - i; omega) ⟨by show i + 1 ≤ _; omega,by rw [hF,decide_eq_false (fun e => f2 (by rw [e]))]; rfl⟩
 have f1 := h1;try simp only [bl] at f1
 refine qp (qc (qc (qo rfl (tC (sR ?_)))));refine oV ?_;refine nE ?_;refine ret1 rfl rfl ?_;exact fun w' hw' => ⟨I,[snI u l],hw',Ext.refl _ _,rfl,by rw [hF,List.drop_of_length_le (by omega)]; rfl,rfl⟩
theorem qgp (s : ByteArray) : ∀ (K : KN), memB s (K.map Prod.fst) = hasK s K
 | [] => rfl
 | (t, p) :: K => by
   have ih := qgp s K
   unfold hasK at ih ⊢
   rw [List.map_cons,memB,getK,ih]
   by_cases h : s = t
   · rw [decide_eq_true h,if_pos h]; rfl
   · rw [decide_eq_false h,if_neg h]; rfl
theorem qtb (K : KN) (s : ByteArray) (p : PL) : (K ++ [(s,p)]).map Prod.fst = K.map Prod.fst ++ [s] := by rw [List.map_append]; rfl
def kyI (u : Value) (K : KN) : Tw.Item := snI u (K.map Prod.fst)
theorem qtc (vi vl vo va : Value) (p : qv) (ns : List qd) {I : Hp} (hp : yi I vi vl vo va p ns) (hf : ∀ o ∈ ns, o.c.few 3000) :
   Fun prog 65 [.agg #[vi,vl,vo,va]] I [] (fun v _ _ => v = .tuple #[.string (vv p).name,.int .i64 (vv p).err]) := by
 have hsi := hp.si
 have hsl := hp.sl
 have hso := hp.so
 have hsa := hp.sa
 have hlo := jq p.outs
 have hli := jq p.ins
 have hla := zl ns
 have hal : p.all.length = ns.length := by rw [← hp.eq,List.length_map]
 have hll : (p.lets.map LetC.cells).length = p.lets.length := List.length_map _
 have hri := q4e vi vl vo va p ns hp hf
 rw [q32] at hri
 have hkl : ∀ K : KN,(K.map Prod.fst).length = K.length := fun K => List.length_map _
 intro w hw
 refine qn _ func65 rfl ntmps65 rfl ?_ hw;refine sR ?_;refine vh trivial rfl rfl rfl (fun b1 => ?_);iterate 2 refine oV ?_
 refine nS ?_;refine oA isAgg26 sizeOf26 ?_;refine oQ call21 rfl hri ?_;refine oV ?_;refine nU ?_;iterate 2 refine oV ?_
 refine nT ?_;refine cC rfl (fun h1 => ?_) (fun h1 => ?_)
 ·
  have f1 := h1;try simp only [bl] at f1
  have ht : (tZ p).isSome = false := by simpa using h1
  refine sR ?_;iterate 2 refine oV ?_
  refine nF ?_;refine ret2 rfl rfl rfl ?_;refine qe ?_; rw [qgm ht]
 have f1 := h1;try simp only [bl] at f1
 have ht : (tZ p).isSome = true := by
   cases e : (tZ p).isSome with
   | true => rfl
   | false => rw [e] at h1; cases h1
 obtain ⟨l,hl⟩ := qex.1 ht
 have hgo := qme hl
 have hfe := hl.few
 have hlb : p.lets.length ≤ 40 := by rw [hl.lets,qdn]; exact hl.few.1
 have hob := hl.outs.2.2
 have hib := hl.ins.2.2
 refine kS ?_;refine oV ?_;refine nU ?_;refine oV ?_;refine oN (tC (cB ?_));refine qt (ι := Nat × KN × Value) [1] (.cons rfl .nil) (fun x => p.ins.length - x.1) (fun x E0 => (5,x.2.2) :: (6,.int .i64 (x.1 : Nat)) :: E0) (fun x => St w [] I [kyI x.2.2 x.2.1,.box b1 (.cells #[vi,vl,vo,va] 26 (0,0))]) (fun x => x.1 ≤ p.ins.length ∧ insZ p.ins 0 [] = insZ (p.ins.drop x.1) x.1 x.2.1 ∧ x.2.1.length ≤ x.1) ((0,[],.slice none 0 0)) (sC rfl (sC rfl (sC rfl sN))) (fun _ h => (h.nilRow 9 1)) (⟨Nat.zero_le _,rfl,Nat.le_refl _⟩) ?_;rintro ⟨i,K1,u⟩ ⟨hi,hF,hK1⟩
 try dsimp only
 simp only at hi hF hK1; have hk1 := hkl K1
 refine cS (sR ?_);refine oV ?_;refine oF 0 underlying26 sizeOf22 ?_;refine oL isAgg22 ?_;refine qu trivial rfl underlying22 rfl (hsi) ?_;refine oV ?_;refine nT ?_;refine cC rfl (fun h2 => ?_) (fun h2 => ?_)
 ·
  have f2 := h2;try simp only [bl] at f2
  obtain ⟨s,hs⟩ : ∃ s,p.ins[i]? = some s := ⟨p.ins[i]'(by omega),List.getElem?_eq_getElem (by omega)⟩
  rw [qs4 hs] at hF
  refine cK (tC (cS (cB (sR ?_))));refine oV ?_;refine oF 0 underlying26 sizeOf22 ?_;refine oL isAgg22 ?_;refine oV ?_;refine vk trivial rfl underlying22 sizeOf9 rfl (hsi) rfl (by omega) ?_;refine q7 trivial rfl isAgg9 rfl (qau hsi hs) ?_;refine oC trivial rfl call108 rfl (qil u (K1.map Prod.fst) s (by rw [hkl]; omega)) (by repeat constructor) ?_;rintro _ _ _ hxa ⟨rfl,rfl,rfl⟩;refine oV ?_;refine oN (tC (cS (cS ?_)))
  rw [qgp]
  refine cR ?_;refine oV ?_;refine nT ?_;refine cC rfl (fun h3 => ?_) (fun h3 => ?_)
  ·
   have f3 := h3;try simp only [bl] at f3
   rw [if_pos h3] at hF
   refine sR ?_;refine oF 0 underlying26 sizeOf22 ?_;refine oL isAgg22 ?_;refine oV ?_;refine vk trivial rfl underlying22 sizeOf9 rfl (hsi) rfl (by omega) ?_;refine q7 trivial rfl isAgg9 rfl (qau hsi hs) ?_;iterate 2 refine oV ?_
   refine oN (tC (cT (tR (qb (tR (tR (qb (tR ?_))))))));refine ret2 rfl rfl rfl ?_;refine qe ?_; rw [qgn ht hF (by decide)]
  have f3 := h3;try simp only [bl] at f3
  rw [h3,if_neg (by decide)] at hF
  refine cK (tC (cR ?_));refine oV ?_;refine oF 0 underlying26 sizeOf22 ?_;refine oL isAgg22 ?_;refine oV ?_;refine vk trivial rfl underlying22 sizeOf9 rfl (hsi) rfl (by omega) ?_;refine q7 trivial rfl isAgg9 rfl (qau hsi hs) ?_;refine oB underlying22 sizeOf9 zeroValue9 fun b46 => ?_;refine oD underlying22 qjr fun v47 => ?_;refine oV ?_;refine oN (qg (tC (cR ?_)));refine oV ?_
  (refine qh trivial rfl rfl rfl ?_ ?_; (omega))
  refine oV ?_;refine oN ?_;exact ql (i + 1,K1 ++ [(s,⟨false,(i : Nat)⟩)],v47) (sC rfl (sC rfl (sC rfl sN))) (fun _ h => by unfold kyI snI; rw [qtb,qta,List.length_append]; exact h.sort (by repeat constructor)) (by show p.ins.length - (i + 1) < p.ins.length - i; omega) ⟨by show i + 1 ≤ _; omega,hF,by show (K1 ++ [_]).length ≤ i + 1; rw [List.length_append]; show K1.length + 1 ≤ _; omega⟩
 have f2 := h2;try simp only [bl] at f2
 have hin : p.ins.drop i = [] := List.drop_of_length_le (by omega)
 rw [hin] at hF
 have hi2 : insZ p.ins 0 [] = (⟨#[]⟩,0,K1) := hF
 refine qp (qc (qc (qo rfl (tC (sR ?_)))));refine oV ?_;refine nU ?_;refine oV ?_;refine oN (tC (cB ?_));refine qt (ι := Nat × Int × KN × Value × List ByteArray) [1] (.cons rfl .nil) (fun x => p.lets.length - x.1) (fun x E0 => (5,x.2.2.2.1) :: (8,.int .i64 x.2.1) :: (9,.int .i64 (x.1 : Nat)) :: E0) (fun x => St w [] I [kyI x.2.2.2.1 x.2.2.1,.box b1 (.cells #[vi,vl,vo,va] 26 (0,0))]) (fun x => x.1 ≤ p.lets.length ∧ 0 ≤ x.2.1 ∧ x.2.1 ≤ ns.length ∧ bgGo p.all (p.lets.drop x.1) x.2.1 = some (p.all.length : Int) ∧ yc p.all p.lets 0 0 K1 [] = yc p.all (p.lets.drop x.1) x.1 x.2.1 x.2.2.1 x.2.2.2.2 ∧ x.2.2.1.length ≤ 40 + x.1) ((0,0,K1,u,[])) (sC rfl (sC rfl (sC rfl (sC rfl sN)))) (fun _ h => h) (⟨Nat.zero_le _,Int.le_refl _,by show (0 : Int) ≤ ns.length; omega,hgo,rfl,by show K1.length ≤ 40 + 0; omega⟩) ?_;rintro ⟨i,fr,K2,u2,L1⟩ ⟨hi,hfr0,hfr1,hg,hF,hK2⟩
 try dsimp only
 simp only at hi hfr0 hfr1 hg hF hK2; have hk2 := hkl K2
 refine cS (sR ?_);refine oV ?_;refine oF 1 underlying26 sizeOf23 ?_;refine oL isAgg23 ?_;refine qu trivial rfl underlying23 rfl (hsl) ?_;refine oV ?_;refine nT ?_;refine cC rfl (fun h4 => ?_) (fun h4 => ?_)
 ·
  have f4 := h4;try simp only [bl] at f4
  obtain ⟨c,hc⟩ : ∃ c,p.lets[i]? = some c := ⟨p.lets[i]'(by omega),List.getElem?_eq_getElem (by omega)⟩
  have hdr : p.lets.drop i = c :: p.lets.drop (i + 1) := by rw [List.drop_eq_getElem_cons (List.getElem?_eq_some_iff.1 hc).1,(List.getElem?_eq_some_iff.1 hc).2]
  rw [qs6 hc] at hF
  rw [hdr,qfb] at hg
  by_cases hcd : vt c.name = true ∧ fr ≤ c.root ∧ c.root < p.all.length ∧ begZ p.all fr p.all.length c.root = fr
  case' neg => rw [if_neg hcd] at hg; cases hg
  rw [if_pos hcd] at hg
  obtain ⟨_,c2,c3,_⟩ := hcd
  obtain ⟨seg,hseg⟩ : ∃ seg,seg = (ns.take (c.root + 1).toNat).drop fr.toNat := ⟨_,rfl⟩
  have hsegl : (seg.length : Int) = c.root + 1 - fr := by rw [hseg,List.length_drop,List.length_take]; omega
  have hsc : segZ p.all fr (c.root + 1) = seg.map qd.c := by rw [hseg,← hp.eq]; unfold segZ; rw [List.map_drop,List.map_take]
  rw [hsc] at hF
  refine cK (tC (cS (cB (sR ?_))));refine oF 1 underlying26 sizeOf23 ?_;refine oL isAgg23 ?_;refine oV ?_;refine vk trivial rfl underlying23 sizeOf39 rfl (hsl) rfl (by omega) ?_;refine jz trivial rfl isAgg39 sizeOf39 rfl rfl (qcw hsl hc) ?_;refine qq trivial rfl zeroValue39 rfl (fun b10 => ?_);refine oS sizeOf39 ?_;refine nU ?_;iterate 2 refine oV ?_
  refine oN (tC (cB ?_));refine qt (ι := Nat × Int × List ByteArray) [1,5,9,10] (.cons rfl (.cons rfl (.cons rfl (.cons rfl .nil)))) (fun x => seg.length - x.1) (fun x E0 => (11,.int .i64 x.2.1) :: E0) (fun x => St w [] I [kyI u2 K2,.box b10 (.cells #[.string c.name,.int .i64 c.root] 39 (0,0)),.box b1 (.cells #[vi,vl,vo,va] 26 (0,0))]) (fun x => x.1 ≤ seg.length ∧ jr K2 (seg.map qd.c) L1 = jr K2 ((seg.drop x.1).map qd.c) x.2.2 ∧ x.2.1 = fr + (x.1 : Nat)) ((0,fr,L1)) (sC rfl (sC rfl (sC rfl (sC rfl (sC rfl sN))))) (fun _ h => h.sort (by repeat constructor)) (⟨Nat.zero_le _,rfl,by show fr = fr + 0; omega⟩) ?_;rintro ⟨j,k,L2⟩ ⟨hj,hF2,hkj⟩
  try dsimp only
  simp only at hj hF2 hkj
  refine cS (sR ?_);refine oV ?_;refine oF 1 underlying39 sizeOf3 ?_;refine oL isAgg3 ?_;refine oV ?_;refine nT ?_;refine cC rfl (fun h5 => ?_) (fun h5 => ?_)
  ·
   have f5 := h5;try simp only [bl] at f5
   obtain ⟨o,ho⟩ : ∃ o,seg[j]? = some o := ⟨seg[j]'(by omega),List.getElem?_eq_getElem (by omega)⟩
   have ho2 : ns[fr.toNat + j]? = some o := by
     have h9 := ho
     rw [hseg,List.getElem?_drop,List.getElem?_take] at h9
     split at h9
     · exact h9
     · cases h9
   have hjn := (List.getElem?_eq_some_iff.1 ho2).1
   have hix : k.toNat = fr.toNat + j := by omega
   rw [qs5 ho] at hF2
   refine cK (tC (cS (cB (sR ?_))));refine oV ?_;refine oF 3 underlying26 sizeOf24 ?_;refine oL isAgg24 ?_;refine oV ?_;refine vk trivial rfl underlying24 sizeOf37 rfl (hsa) rfl (by omega) ?_;refine oF 4 underlying37 sizeOf9 ?_;refine q7 trivial rfl isAgg9 rfl ((by rw [hix]; exact qav hsa ho2 4 _ rfl)) ?_;refine oC trivial rfl call108 rfl (qil u2 (K2.map Prod.fst) o.c.name (by omega)) (by repeat constructor) ?_;rintro _ _ _ hxa ⟨rfl,rfl,rfl⟩;refine oV ?_;refine oN (tC (cS ?_))
   rw [qgp]
   refine cR ?_;refine oF 3 underlying26 sizeOf24 ?_;refine oL isAgg24 ?_;refine oV ?_;refine vk trivial rfl underlying24 sizeOf37 rfl (hsa) rfl (by omega) ?_;refine oF 0 underlying37 sizeOf3 ?_;refine q7 trivial rfl isAgg3 rfl ((by rw [hix]; exact qav hsa ho2 0 _ rfl)) ?_;refine oV ?_;refine' oY (fun hb82 => ?_) ?_;rotate_left
   ·
    have fb82 := hb82
    try simp only [bl] at fb82
    iterate 2 refine gV hb82 ?_
    refine oN ?_;exact qa rfl
   refine nT ?_;refine cC rfl (fun h6 => ?_) (fun h6 => ?_)
   ·
    have f6 := h6;try simp only [bl] at f6
    have hk0 : o.c.kind = 0 ∧ hasK o.c.name K2 = false := by simpa using h6
    rw [if_neg (not_not_intro hk0.1),hk0.2,if_neg (by decide)] at hF2
    rw [hF2] at hF
    refine sR ?_;refine oF 3 underlying26 sizeOf24 ?_;refine oL isAgg24 ?_;refine oV ?_;refine vk trivial rfl underlying24 sizeOf37 rfl (hsa) rfl (by omega) ?_;refine oF 4 underlying37 sizeOf9 ?_;refine q7 trivial rfl isAgg9 rfl ((by rw [hix]; exact qav hsa ho2 4 _ rfl)) ?_;iterate 2 refine oV ?_
    refine oN (tC (cT (qb (tR (tR (qb (tR (qb (tR (tR (qb (tR ?_))))))))))));refine ret2 rfl rfl rfl ?_;refine qe ?_; rw [qfc ht hi2 hF (by decide)]
   have f6 := h6;try simp only [bl] at f6
   have hk0 : o.c.kind = 0 → hasK o.c.name K2 = true := by simpa using h6
   refine cK (qg (tC (cR ?_)));refine oV ?_
   (refine qh trivial rfl rfl rfl ?_ ?_; (omega))
   refine oV ?_;refine oN ?_
   by_cases hk9 : o.c.kind = 0
   · rw [if_neg (not_not_intro hk9), if_pos (hk0 hk9)] at hF2
     exact ql (j + 1,k + 1,L2 ++ [o.c.name]) (sC rfl (sC rfl (sC rfl (sC rfl (sC rfl sN))))) (fun _ h => h.sort (by repeat constructor)) (by show seg.length - (j + 1) < seg.length - j; omega) ⟨by show j + 1 ≤ _; omega,hF2,by show k + 1 = fr + ((j + 1 : Nat) : Int); omega⟩
   · rw [if_pos hk9] at hF2
     exact ql (j + 1,k + 1,L2) (sC rfl (sC rfl (sC rfl (sC rfl (sC rfl sN))))) (fun _ h => h.sort (by repeat constructor)) (by show seg.length - (j + 1) < seg.length - j; omega) ⟨by show j + 1 ≤ _; omega,hF2,by show k + 1 = fr + ((j + 1 : Nat) : Int); omega⟩
  have f5 := h5;try simp only [bl] at f5
  have hjn : seg.drop j = [] := List.drop_of_length_le (by omega)
  rw [hjn] at hF2
  have hF3 : jr K2 (seg.map qd.c) L1 = (none,L2) := hF2
  rw [hF3] at hF
  dsimp only at hF
  refine qp (qc (qc (qo rfl (tC (sR ?_)))));refine oF 1 underlying39 sizeOf3 ?_;refine oL isAgg3 ?_
  (refine qh trivial rfl rfl rfl ?_ ?_; (omega))
  refine oV ?_;refine nS ?_;refine oV ?_;refine oF 0 underlying39 sizeOf9 ?_;refine oL isAgg9 ?_;refine oC trivial rfl call108 rfl (qil u2 (K2.map Prod.fst) c.name (by omega)) (by repeat constructor) ?_;rintro _ _ _ hxa ⟨rfl,rfl,rfl⟩;refine oV ?_;refine oN (tC (cS (cS ?_)))
  rw [qgp]
  refine cR ?_;refine oV ?_;refine nT ?_;refine cC rfl (fun h7 => ?_) (fun h7 => ?_)
  ·
   have f7 := h7;try simp only [bl] at f7
   rw [if_pos h7] at hF
   refine sR ?_;refine oF 0 underlying39 sizeOf9 ?_;refine oL isAgg9 ?_;iterate 2 refine oV ?_
   refine oN (tC (cT (tR (qb (tR (tR (qb (tR ?_))))))));refine ret2 rfl rfl rfl ?_;refine qe ?_; rw [qfc ht hi2 hF (by decide)]
  have f7 := h7;try simp only [bl] at f7
  rw [h7,if_neg (by decide)] at hF
  refine cK (tC (cR ?_));refine oV ?_;refine oF 0 underlying39 sizeOf9 ?_;refine oL isAgg9 ?_;refine oB underlying22 sizeOf9 zeroValue9 fun b105 => ?_;refine oD underlying22 qjr fun v106 => ?_;refine oV ?_;refine oN (qg (tC (cR ?_)));refine oV ?_
  (refine qh trivial rfl rfl rfl ?_ ?_; (omega))
  refine oV ?_;refine oN ?_;exact ql (i + 1,c.root + 1,K2 ++ [(c.name,⟨true,(i : Nat)⟩)],v106,L2) (sC rfl (sC rfl (sC rfl (sC rfl sN)))) (fun _ h => by unfold kyI snI; rw [qtb,qta,List.length_append]; exact h.sort (by repeat constructor)) (by show p.lets.length - (i + 1) < p.lets.length - i; omega) ⟨by show i + 1 ≤ _; omega,by show 0 ≤ c.root + 1; omega,by show c.root + 1 ≤ _; omega,hg,hF,by show (K2 ++ [_]).length ≤ 40 + (i + 1); rw [List.length_append]; show K2.length + 1 ≤ _; omega⟩
 have f4 := h4;try simp only [bl] at f4
 have hin : p.lets.drop i = [] := List.drop_of_length_le (by omega)
 rw [hin] at hF
 have hz : yc p.all p.lets 0 0 K1 [] = (⟨#[]⟩,0,K2,L1) := hF
 have hrz := qgo ht hi2 hz
 refine qp (qc (qc (qo rfl (tC (cS (sR ?_))))));refine oV ?_;refine oN (tC (cB ?_));refine qt (ι := Nat × List ByteArray) [1,5] (.cons rfl (.cons rfl .nil)) (fun x => p.outs.length - x.1) (fun x E0 => (14,.int .i64 (x.1 : Nat)) :: E0) (fun x => St w [] I [kyI u2 K2,.box b1 (.cells #[vi,vl,vo,va] 26 (0,0))]) (fun x => x.1 ≤ p.outs.length ∧ ousZ K2 p.outs L1 = ousZ K2 (p.outs.drop x.1) x.2) ((0,L1)) (sC rfl (sC rfl (sC rfl sN))) (fun _ h => h) (⟨Nat.zero_le _,rfl⟩) ?_;rintro ⟨i4,L3⟩ ⟨hi4,hF4⟩
 try dsimp only
 simp only at hi4 hF4
 refine cS (sR ?_);refine oV ?_;refine oF 2 underlying26 sizeOf22 ?_;refine oL isAgg22 ?_;refine qu trivial rfl underlying22 rfl (hso) ?_;refine oV ?_;refine nT ?_;refine cC rfl (fun h8 => ?_) (fun h8 => ?_)
 ·
  have f8 := h8;try simp only [bl] at f8
  obtain ⟨s,hs⟩ : ∃ s,p.outs[i4]? = some s := ⟨p.outs[i4]'(by omega),List.getElem?_eq_getElem (by omega)⟩
  rw [qs8 hs] at hF4
  refine cK (tC (cS (cB (sR ?_))));refine oV ?_;refine oF 2 underlying26 sizeOf22 ?_;refine oL isAgg22 ?_;refine oV ?_;refine vk trivial rfl underlying22 sizeOf9 rfl (hso) rfl (by omega) ?_;refine q7 trivial rfl isAgg9 rfl (qau hso hs) ?_;refine oC trivial rfl call108 rfl (qil u2 (K2.map Prod.fst) s (by omega)) (by repeat constructor) ?_;rintro _ _ _ hxa ⟨rfl,rfl,rfl⟩;refine oV ?_;refine oN (tC (cS ?_))
  rw [qgp]
  refine cR ?_;iterate 2 refine oV ?_
  refine nT ?_;refine cC rfl (fun h9 => ?_) (fun h9 => ?_)
  ·
   have f9 := h9;try simp only [bl] at f9
   have hh : hasK s K2 = false := by simpa using h9
   rw [hh,if_neg (by decide)] at hF4
   rw [hF4] at hrz
   refine sR ?_;refine oF 2 underlying26 sizeOf22 ?_;refine oL isAgg22 ?_;refine oV ?_;refine vk trivial rfl underlying22 sizeOf9 rfl (hso) rfl (by omega) ?_;refine q7 trivial rfl isAgg9 rfl (qau hso hs) ?_;iterate 2 refine oV ?_
   refine oN (tC (cT (qb (tR (tR (qb (tR ?_)))))));refine ret2 rfl rfl rfl ?_;refine qe ?_; rw [hrz]
  have f9 := h9;try simp only [bl] at f9
  have hh : hasK s K2 = true := by simpa using h9
  rw [if_pos hh] at hF4
  refine cK (qg (tC (cR ?_)));refine oV ?_
  (refine qh trivial rfl rfl rfl ?_ ?_; (omega))
  refine oV ?_;refine oN ?_;exact ql (i4 + 1,L3 ++ [s]) (sC rfl (sC rfl (sC rfl sN))) (fun _ h => h) (by show p.outs.length - (i4 + 1) < p.outs.length - i4; omega) ⟨by show i4 + 1 ≤ _; omega,hF4⟩
 have f8 := h8;try simp only [bl] at f8
 have hin4 : p.outs.drop i4 = [] := List.drop_of_length_le (by omega)
 rw [hin4] at hF4
 have hF5 : ousZ K2 p.outs L1 = (⟨#[]⟩,0,L3) := hF4
 rw [hF5] at hrz
 refine qp (qc (qc (qo rfl (tC (sR ?_)))));iterate 2 refine oV ?_
 refine nE ?_;refine ret2 rfl rfl rfl ?_;refine qe ?_; rw [hrz]
def yv (b : Bool) : List ByteArray → Nat → KN
 | [],_ => []
 | s :: l,i => (s,⟨b,(i : Nat)⟩) :: yv b l (i + 1)
theorem qtd : ∀ {l : List ByteArray} {i : Nat} {K K' : KN} {n : ByteArray}, insZ l i K = (n, 0, K') → K' = K ++ yv false l i
 | [], i, K, K', n, h => by
   have := congrArg (fun x => x.2.2) h
   rw [yv,List.append_nil]; exact this.symm
 | s :: l, i, K, K', n, h => by
   rw [insZ] at h
   split at h
   · have := congrArg (fun x => x.2.1) h
     simp at this
   · rw [qtd h,yv,List.append_assoc]; rfl
def qae : List NodeC → List ByteArray
 | [] => []
 | c :: r => if c.kind ≠ 0 then qae r else c.name :: qae r
theorem qte : ∀ (a b : List NodeC), qae (a ++ b) = qae a ++ qae b
 | [],b => rfl
 | c :: a, b => by
   rw [List.cons_append,qae,qae,qte a b]
   split <;> rfl
theorem qmh {K : KN} : ∀ {r : List NodeC} {L L' : List ByteArray}, jr K r L = (none, L') → L' = L ++ qae r
 | [], L, L', h => by
   have := congrArg Prod.snd h
   rw [qae,List.append_nil]; exact this.symm
 | c :: r, L, L', h => by
   rw [jr] at h
   rw [qae]
   split at h
   · rename_i hk
     rw [if_pos hk]; exact qmh h
   · rename_i hk
     rw [if_neg hk]
     split at h
     · rw [qmh h,List.append_assoc]; rfl
     · have := congrArg Prod.fst h
       cases this
theorem q4m {all : List NodeC} {fr hi : Int} (h0 : 0 ≤ fr) (h : fr ≤ hi) (h2 : hi ≤ all.length) : segZ all fr hi ++ all.drop hi.toNat = all.drop fr.toNat := by
 unfold segZ
 have e := List.take_append_drop hi.toNat all
 conv => rhs; rw [← e]
 rw [List.drop_append,List.length_take,show fr.toNat - min hi.toNat all.length = 0 by omega,List.drop_zero]
theorem qtf {all : List NodeC} : ∀ {ls : List LetC} {i : Nat} {fr : Int} {K K' : KN} {L L' : List ByteArray} {n : ByteArray}, yc all ls i fr K L = (n, 0, K', L') → bgGo all ls fr = some (all.length : Int) → 0 ≤ fr → K' = K ++ yv true (ls.map LetC.name) i ∧ L' = L ++ qae (all.drop fr.toNat)
 | [], i, fr, K, K', L, L', n, h, hg, h0 => by
   have h1 := congrArg (fun x => x.2.2.1) h
   have h2 := congrArg (fun x => x.2.2.2) h
   have h3 : fr = (all.length : Int) := Option.some.inj hg
   refine ⟨by rw [List.map_nil,yv,List.append_nil]; exact h1.symm,?_⟩
   rw [h3,Int.toNat_natCast,List.drop_length,qae,List.append_nil]
   exact h2.symm
 | c :: ls, i, fr, K, K', L, L', n, h, hg, h0 => by
   rw [yc] at h
   rw [qfb] at hg
   by_cases hcd : vt c.name = true ∧ fr ≤ c.root ∧ c.root < all.length ∧ begZ all fr all.length c.root = fr
   · rw [if_pos hcd] at hg
     cases hn : jr K (segZ all fr (c.root + 1)) L with
     | mk e L1 =>
       rw [hn] at h
       cases e with
       | some m =>
         have := congrArg (fun x => x.2.1) h
         simp at this
       | none =>
         dsimp only at h
         split at h
         · have := congrArg (fun x => x.2.1) h
           simp at this
         · obtain ⟨h1, h2⟩ := qtf h hg (by omega)
           refine ⟨by rw [h1,List.map_cons,yv,List.append_assoc]; rfl,?_⟩
           rw [h2,qmh hn,List.append_assoc,← qte,q4m h0 (by omega) (by omega)]
   · rw [if_neg hcd] at hg; cases hg
theorem qtg {K : KN} : ∀ {l L L' : List ByteArray} {n : ByteArray}, ousZ K l L = (n, 0, L') → L' = L ++ l
 | [], L, L', n, h => by
   have := congrArg (fun x => x.2.2) h
   rw [List.append_nil]; exact this.symm
 | s :: l, L, L', n, h => by
   rw [ousZ] at h
   split at h
   · rw [qtg h,List.append_assoc]; rfl
   · have := congrArg (fun x => x.2.1) h
     simp at this
theorem q4n {p : qv} (h : (vv p).err = 0) : (vv p).K = yv false p.ins 0 ++ yv true (p.lets.map LetC.name) 0 ∧ (vv p).L = qae p.all ++ p.outs := by
 cases ht : (tZ p).isSome with
 | false => rw [qgm ht] at h; cases h
 | true =>
   obtain ⟨l,hl⟩ := qex.1 ht
   have hgo := qme hl
   cases hi : insZ p.ins 0 [] with
   | mk n x =>
     obtain ⟨e,K⟩ := x
     by_cases he : e = 0
     · subst he
       cases hz : yc p.all p.lets 0 0 K [] with
       | mk m y =>
         obtain ⟨e2,K2,L2⟩ := y
         by_cases he2 : e2 = 0
         · subst he2
           have hr := qgo ht hi hz
           rw [hr] at h ⊢
           dsimp only at h ⊢
           obtain ⟨h1,h2⟩ := qtf hz hgo (Int.le_refl _)
           cases ho : ousZ K2 p.outs L2 with
           | mk n3 z =>
             obtain ⟨e3,L3⟩ := z
             rw [ho] at h
             dsimp only at h
             subst h
             refine ⟨by rw [h1,qtd hi]; rfl,?_⟩
             show L3 = _
             rw [qtg ho,h2]
             rfl
         · rw [qfc ht hi hz he2] at h; exact absurd h he2
     · rw [qgn ht hi he] at h; exact absurd h he
theorem qth (s : ByteArray) : ∀ (A B : KN), getK s (A ++ B) = match getK s A with
   | some p => some p
   | none => getK s B
 | [],B => rfl
 | (t, p) :: A, B => by
   rw [List.cons_append,getK,getK]
   split
   · rfl
   · exact qth s A B
theorem qti {b : Bool} {l : List ByteArray} {i : Nat} {x : ByteArray} (h : l[i]? = some x) (s : ByteArray) : getK s (yv b (l.drop i) i) = if s = x then some ⟨b,(i : Nat)⟩ else getK s (yv b (l.drop (i + 1)) (i + 1)) := by
 obtain ⟨h1,h2⟩ := List.getElem?_eq_some_iff.1 h
 rw [List.drop_eq_getElem_cons h1,h2]
 rfl
theorem q4o {p : qv} {s : ByteArray} (h : (vv p).err ≠ 0) : yr p s = (false,0,false) := if_neg fun hh => h hh.1
theorem qtj {p : qv} {s : ByteArray} (h : (vv p).err = 0) : yr p s = match getK s (yv false p.ins 0) with
   | some q => (q.l,q.i,true)
   | none => match getK s (yv true (p.lets.map LetC.name) 0) with
     | some q => (q.l,q.i,true)
     | none => (false,0,false) := by
 unfold yr hasK
 rw [(q4n h).1,qth]
 cases getK s (yv false p.ins 0) with
 | some q => rw [if_pos ⟨h,rfl⟩]; rfl
 | none =>
   dsimp only
   cases getK s (yv true (p.lets.map LetC.name) 0) with
   | some q => rw [if_pos ⟨h,rfl⟩]; rfl
   | none => rw [if_neg (fun hh => by cases hh.2)]
theorem q4p (vi vl vo va : Value) (p : qv) (ns : List qd) (s : ByteArray) {I : Hp} (hp : yi I vi vl vo va p ns) (hf : ∀ o ∈ ns, o.c.few 3000) :
   Fun prog 109 [.agg #[vi,vl,vo,va],.string s] I [] (fun v _ _ => v = .tuple #[.bool (yr p s).1,.int .i64 (yr p s).2.1,.bool (yr p s).2.2]) := by
 have hsi := hp.si
 have hsl := hp.sl
 have hso := hp.so
 have hsa := hp.sa
 have hli := jq p.ins
 have hll : (p.lets.map LetC.cells).length = p.lets.length := List.length_map _
 have hmi := hsi.most
 have hml := hsl.most
 rw [hli] at hmi
 rw [hll] at hml
 unfold maxLen at hmi hml
 intro w hw
 refine qz _ func109 rfl ntmps109 rfl ?_ hw;refine sR ?_;refine vh trivial rfl rfl rfl (fun b2 => ?_);iterate 3 refine oV ?_
 refine nS ?_;refine oA isAgg26 sizeOf26 ?_;refine oQ call65 rfl (qtc vi vl vo va p ns hp hf) ?_;iterate 5 refine oV ?_
 refine nU ?_;iterate 2 refine oV ?_
 refine nT ?_;refine cC rfl (fun h1 => ?_) (fun h1 => ?_)
 ·
  have f1 := h1;try simp only [bl] at f1
  have he : (vv p).err ≠ 0 := by simpa using h1
  have hz := q4o (s := s) he
  refine sR ?_;iterate 3 refine oV ?_
  refine nF ?_;refine ret3 rfl rfl rfl rfl ?_;refine qe ?_; rw [hz]
 have f1 := h1;try simp only [bl] at f1
 have he : (vv p).err = 0 := by simpa using h1
 have hz := qtj (s := s) he
 refine cK (tC (cS (sR ?_)));refine oV ?_;refine oN (tC (cB ?_));refine qt (ι := Nat) [1,2] (.cons rfl (.cons rfl .nil)) (fun x => p.ins.length - x) (fun x E0 => (9,.int .i64 (x : Nat)) :: E0) (fun x => St w [] I [.box b2 (.cells #[vi,vl,vo,va] 26 (0,0))]) (fun x => x ≤ p.ins.length ∧ getK s (yv false p.ins 0) = getK s (yv false (p.ins.drop x) x)) (0) (sC rfl (sC rfl (sC rfl sN))) (fun _ h => h) (⟨Nat.zero_le _,rfl⟩) ?_;rintro i ⟨hi,hF⟩
 try dsimp only
 refine cS (sR ?_);refine oV ?_;refine oF 0 underlying26 sizeOf22 ?_;refine oL isAgg22 ?_;refine qu trivial rfl underlying22 rfl (hsi) ?_;refine oV ?_;refine nT ?_;refine cC rfl (fun h2 => ?_) (fun h2 => ?_)
 ·
  have f2 := h2;try simp only [bl] at f2
  obtain ⟨x,hx⟩ : ∃ x,p.ins[i]? = some x := ⟨p.ins[i]'(by omega),List.getElem?_eq_getElem (by omega)⟩
  rw [qti hx] at hF
  refine cK (tC (cS (cB (sR ?_))));refine oF 0 underlying26 sizeOf22 ?_;refine oL isAgg22 ?_;refine oV ?_;refine vk trivial rfl underlying22 sizeOf9 rfl (hsi) rfl (by omega) ?_;refine q7 trivial rfl isAgg9 rfl (qau hsi hx) ?_;iterate 2 refine oV ?_
  refine nT ?_;refine cC rfl (fun h3 => ?_) (fun h3 => ?_)
  ·
   have f3 := h3;try simp only [bl] at f3
   rw [if_pos (qmg f3).symm] at hF
   rw [hF] at hz
   refine sR ?_;iterate 4 refine oV ?_
   refine oN (tC (cT (qb (tR (tR (qb (tR ?_)))))));refine ret3 rfl rfl rfl rfl ?_;refine qe ?_; rw [hz]
  have f3 := h3;try simp only [bl] at f3
  refine cK (qg (tC (cR ?_)));refine oV ?_
  (refine qh trivial rfl rfl rfl ?_ ?_; (omega))
  refine oV ?_;refine oN ?_;exact ql (i + 1) (sC rfl (sC rfl (sC rfl sN))) (fun _ h => h) (by show p.ins.length - (i + 1) < p.ins.length - i; omega) ⟨by show i + 1 ≤ _; omega,by rw [hF,if_neg (fun e => f3 (by rw [e]))]⟩
 have f2 := h2;try simp only [bl] at f2
 rw [List.drop_of_length_le (show p.ins.length ≤ i by omega)] at hF
 have hF1 : getK s (yv false p.ins 0) = none := hF
 rw [hF1] at hz
 dsimp only at hz
 refine qp (qc (qc (qo rfl (tC (cS (sR ?_))))));refine oV ?_;refine oN (tC (cB ?_));refine qt (ι := Nat) [1,2] (.cons rfl (.cons rfl .nil)) (fun x => p.lets.length - x) (fun x E0 => (10,.int .i64 (x : Nat)) :: E0) (fun x => St w [] I [.box b2 (.cells #[vi,vl,vo,va] 26 (0,0))]) (fun x => x ≤ p.lets.length ∧ getK s (yv true (p.lets.map LetC.name) 0) = getK s (yv true ((p.lets.map LetC.name).drop x) x)) (0) (sC rfl (sC rfl (sC rfl sN))) (fun _ h => h) (⟨Nat.zero_le _,rfl⟩) ?_;rintro j ⟨hj,hG⟩
 try dsimp only
 refine cS (sR ?_);refine oV ?_;refine oF 1 underlying26 sizeOf23 ?_;refine oL isAgg23 ?_;refine qu trivial rfl underlying23 rfl (hsl) ?_;refine oV ?_;refine nT ?_;refine cC rfl (fun h4 => ?_) (fun h4 => ?_)
 ·
  have f4 := h4;try simp only [bl] at f4
  obtain ⟨c,hc⟩ : ∃ c,p.lets[j]? = some c := ⟨p.lets[j]'(by omega),List.getElem?_eq_getElem (by omega)⟩
  rw [qti (x := c.name) (by rw [List.getElem?_map,hc]; rfl)] at hG
  refine cK (tC (cS (cB (sR ?_))));refine oF 1 underlying26 sizeOf23 ?_;refine oL isAgg23 ?_;refine oV ?_;refine vk trivial rfl underlying23 sizeOf39 rfl (hsl) rfl (by omega) ?_;refine oF 0 underlying39 sizeOf9 ?_;refine q7 trivial rfl isAgg9 rfl (qcw hsl hc 0 _ rfl) ?_;iterate 2 refine oV ?_
  refine nT ?_;refine cC rfl (fun h5 => ?_) (fun h5 => ?_)
  ·
   have f5 := h5;try simp only [bl] at f5
   rw [if_pos (qmg f5).symm] at hG
   rw [hG] at hz
   refine sR ?_;iterate 4 refine oV ?_
   refine oN (tC (cT (qb (tR (tR (qb (tR ?_)))))));refine ret3 rfl rfl rfl rfl ?_;refine qe ?_; rw [hz]
  have f5 := h5;try simp only [bl] at f5
  refine cK (qg (tC (cR ?_)));refine oV ?_
  (refine qh trivial rfl rfl rfl ?_ ?_; (omega))
  refine oV ?_;refine oN ?_;exact ql (j + 1) (sC rfl (sC rfl (sC rfl sN))) (fun _ h => h) (by show p.lets.length - (j + 1) < p.lets.length - j; omega) ⟨by show j + 1 ≤ _; omega,by rw [hG,if_neg (fun e => f5 (by rw [e]))]⟩
 have f4 := h4;try simp only [bl] at f4
 rw [List.drop_of_length_le (show (p.lets.map LetC.name).length ≤ j by rw [List.length_map]; omega)] at hG
 have hG1 : getK s (yv true (p.lets.map LetC.name) 0) = none := hG
 rw [hG1] at hz
 refine qp (qc (qc (qo rfl (tC (sR ?_)))));iterate 3 refine oV ?_
 refine nE ?_;refine ret3 rfl rfl rfl rfl ?_;refine qe ?_; rw [hz]
def awB : ByteArray := ⟨#[98]⟩
theorem qtk : vt awB = true := by kernel_rfl
def us (s : ByteArray) : ByteArray := s ++ ⟨#[95]⟩
theorem q4q {p : qv} (h : (vv p).err = 0) : ∃ (l : List (ByteArray × Ex)) (n m r : ByteArray) (K1 : KN) (L2 : List ByteArray),qa5 p l ∧ insZ p.ins 0 [] = (n,0,K1) ∧ yc p.all p.lets 0 0 K1 [] = (m,0,(vv p).K,L2) ∧ ousZ (vv p).K p.outs L2 = (r,0,(vv p).L) := by
 cases ht : (tZ p).isSome with
 | false => rw [qgm ht] at h; cases h
 | true =>
   obtain ⟨l,hl⟩ := qex.1 ht
   cases hi : insZ p.ins 0 [] with
   | mk n x =>
     obtain ⟨e,K⟩ := x
     by_cases he : e = 0
     · subst he
       cases hz : yc p.all p.lets 0 0 K [] with
       | mk m y =>
         obtain ⟨e2,K2,L2⟩ := y
         by_cases he2 : e2 = 0
         · subst he2
           have hr := qgo ht hi hz
           rw [hr] at h ⊢
           dsimp only at h ⊢
           refine ⟨l,n,m,(ousZ K2 p.outs L2).1,K,L2,hl,rfl,hz,?_⟩
           rw [← h]
         · rw [qfc ht hi hz he2] at h; exact absurd h he2
     · rw [qgn ht hi he] at h; exact absurd h he
def plcZ (p : qv) (pl : List Int) (s : ByteArray) : Int := if (yr p s).1 = true then pl.getD ((p.lets.getD (yr p s).2.1.toNat ⟨⟨#[]⟩,0⟩).root.toNat) 0 else (yr p s).2.1
def opL (c : NodeC) (pl : List Int) : OpC := ⟨c.kind,if 2 ≤ c.kind then pl.getD c.a.toNat 0 else 0,if 2 ≤ c.kind ∧ c.kind ≤ 5 then pl.getD c.b.toNat 0 else 0,c.e,c.neg,c.n,c.d⟩
def j4 (p : qv) : List NodeC → Nat → List Int → List OpC → List Int × List OpC
 | [],_,pl,ops => (pl,ops)
 | c :: r,i,pl,ops => if c.kind = 0 then j4 p r (i + 1) (pl.set i (plcZ p pl c.name)) ops else j4 p r (i + 1) (pl.set i ((p.ins.length : Int) + ops.length)) (ops ++ [opL c (pl.set i ((p.ins.length : Int) + ops.length))])
def qbs (p : qv) : List Int × List OpC := j4 p p.all 0 (List.replicate p.all.length 0) []
def lowT (p : qv) : jw := ⟨p.ins.length,(qbs p).2,p.outs.map (plcZ p (qbs p).1)⟩
structure LowR where
 t : jw
 name : ByteArray
 err : Int
def noT : jw := ⟨0,[],[]⟩
def lowZ (p : qv) : LowR := if (vv p).err ≠ 0 then ⟨noT,(vv p).name,(vv p).err⟩ else if (v7 (lowT p)).isSome = true then ⟨lowT p,⟨#[]⟩,0⟩ else ⟨noT,⟨#[]⟩,4⟩
def LowV (r : LowR) (v : Value) (I : Hp) : Prop := ∃ vo vu os,v = .tuple #[.agg #[.int .i64 r.t.ins,vo,vu],.string r.name,.int .i64 r.err] ∧ jp I vo vu r.t os ∧ ∀ o ∈ r.t.ops,OpC.few 3000 o
theorem qtl {p : qv} {l : List NodeC} {i : Nat} {c : NodeC} (h : l[i]? = some c) (pl : List Int) (ops : List OpC) : j4 p (l.drop i) i pl ops = if c.kind = 0 then j4 p (l.drop (i + 1)) (i + 1) (pl.set i (plcZ p pl c.name)) ops else j4 p (l.drop (i + 1)) (i + 1) (pl.set i ((p.ins.length : Int) + ops.length)) (ops ++ [opL c (pl.set i ((p.ins.length : Int) + ops.length))]) := by
 obtain ⟨h1,h2⟩ := List.getElem?_eq_some_iff.1 h
 rw [List.drop_eq_getElem_cons h1,h2]
 rfl
structure qmi (p : qv) : Prop where
 low : LowN p.all
 kind : ∀ c ∈ p.all,0 ≤ c.kind ∧ c.kind ≤ 7
 place : ∀ s,(yr p s).1 = true → 0 ≤ (yr p s).2.1 ∧ ∃ c,p.lets[(yr p s).2.1.toNat]? = some c ∧ 0 ≤ c.root ∧ c.root < p.all.length
 few : p.all.length ≤ 400 ∧ p.outs.length ≤ 40 ∧ p.ins.length ≤ 40
theorem q4r {l : List NodeC} {i : Int} {x : Ex} (h : y5 l i x) {c : NodeC} (hc : l[i.toNat]? = some c) : 0 ≤ c.kind ∧ c.kind ≤ 7 := by
 cases x with
 | ref t => have h1 := h.ref; rw [hc] at h1; cases Option.some.inj h1; exact ⟨by show (0 : Int) ≤ 0; decide,by show (0 : Int) ≤ 7; decide⟩
 | num q => have h1 := h.num; rw [hc] at h1; cases Option.some.inj h1; exact ⟨by show (0 : Int) ≤ 1; decide,by show (1 : Int) ≤ 7; decide⟩
 | neg y => obtain ⟨a,h1,_⟩ := h.neg; rw [hc] at h1; cases Option.some.inj h1; exact ⟨by show (0 : Int) ≤ 6; decide,by show (6 : Int) ≤ 7; decide⟩
 | pow y e => obtain ⟨a,h1,_⟩ := h.pow; rw [hc] at h1; cases Option.some.inj h1; exact ⟨by show (0 : Int) ≤ 7; decide,by show (7 : Int) ≤ 7; decide⟩
 | bin k y z =>
   have hk := h.ok
   obtain ⟨a,b,h1,_⟩ := h.bin
   rw [hc] at h1; cases Option.some.inj h1
   obtain ⟨k2,k5,_⟩ := hk
   exact ⟨by show 0 ≤ k; omega,by show k ≤ 7; omega⟩
theorem qmj {b : Bool} {s : ByteArray} {q : PL} : ∀ {l : List ByteArray} {i : Nat}, getK s (yv b l i) = some q → q.l = b ∧ 0 ≤ q.i ∧ q.i < (i + l.length : Nat)
 | [],i,h => by cases h
 | t :: l, i, h => by
   rw [yv,getK] at h
   split at h
   · cases h; refine ⟨rfl, ?_, ?_⟩
     · show 0 ≤ ((i : Nat) : Int); omega
     · show ((i : Nat) : Int) < _; rw [List.length_cons]; omega
   · obtain ⟨h1, h2, h3⟩ := qmj h
     refine ⟨h1,h2,?_⟩
     rw [List.length_cons]
     omega
theorem qtm {p : qv} (h : (vv p).err = 0) : qmi p := by
 obtain ⟨l,n,m,r,K1,L2,hl,_,_,_⟩ := q4q h
 refine ⟨qsn hl.toShaped,fun c hc => ?_,fun s hs => ?_,⟨hl.few.2,hl.outs.2.2,hl.ins.2.2⟩⟩
 · obtain ⟨i, hi⟩ := List.mem_iff_getElem?.1 hc
   have hlt := (List.getElem?_eq_some_iff.1 hi).1
   obtain ⟨y,hy,_⟩ := hl.node (i := (i : Int)) (by omega) (by omega)
   exact q4r hy (by rw [Int.toNat_natCast]; exact hi)
 · have hw := qtj (s := s) h
   cases e1 : getK s (yv false p.ins 0) with
   | some q =>
     rw [e1] at hw
     dsimp only at hw
     rw [hw,(qmj e1).1] at hs
     cases hs
   | none =>
     rw [e1] at hw
     dsimp only at hw
     cases e2 : getK s (yv true (p.lets.map LetC.name) 0) with
     | none => rw [e2] at hw; dsimp only at hw; rw [hw] at hs; cases hs
     | some q =>
       rw [e2] at hw
       dsimp only at hw
       obtain ⟨_,g1,g2⟩ := qmj e2
       rw [List.length_map,Nat.zero_add] at g2
       rw [hw]
       refine ⟨g1,?_⟩
       obtain ⟨c,hc⟩ : ∃ c,p.lets[q.i.toNat]? = some c := ⟨p.lets[q.i.toNat]'(by omega),List.getElem?_eq_getElem (by omega)⟩
       obtain ⟨x,_,hx,_⟩ := hl.root hc
       exact ⟨c,hc,hx.in_⟩
def ivs (l : List Int) : List Value := l.map fun z => .int .i64 z
theorem qtn (l : List Int) : (ivs l).length = l.length := by simp [ivs]
theorem qim (l : List Int) (i : Nat) (z : Int) : (ivs l).set i (.int .i64 z) = ivs (l.set i z) := by unfold ivs; rw [List.map_set]
theorem qfd {l : List Int} {i : Nat} (h : i < l.length) : (ivs l)[i]? = some (.int .i64 (l.getD i 0)) := by
 unfold ivs
 rw [List.getElem?_map,List.getElem?_eq_getElem h,List.getD_eq_getElem?_getD,List.getElem?_eq_getElem h]; rfl
theorem qto (m : Nat) : (madeCells [Value.int .i64 0].toArray (m * 1)).toList = ivs (List.replicate m 0) := by
 rw [Nat.mul_one]; exact (toList_madeCells_one _ _).trans (by simp [ivs])
def zo (o : OpC) : Bool :=
 if o.code = 1 then decide (o.a = 0 ∧ o.b = 0 ∧ o.e = 0)
 else if 2 ≤ o.code ∧ o.code ≤ 5 then qx o.neg o.n o.d && decide (o.e = 0)
 else if o.code = 6 then qx o.neg o.n o.d && decide (o.b = 0 ∧ o.e = 0)
 else if o.code = 7 then qx o.neg o.n o.d && decide (o.b = 0)
 else false
theorem q4s (neg : Bool) (A B : List Nat) : (decide (neg = false) && decide (A = []) && decide (B = [])) = qx neg A B := by
 unfold qx
 cases neg <;> cases A <;> cases B <;> simp
theorem q4t (code a b e : Int) (neg : Bool) (va vb : Value) (A B : List Nat) {I : Hp} (ha : Ws I va A) (hb : Ws I vb B) : Fun prog 112 [.agg #[.int .i64 code,.int .i64 a,.int .i64 b,.int .i64 e,.bool neg,va,vb]] I [] (fun v _ _ => v = .bool (zo ⟨code,a,b,e,neg,A,B⟩)) := by
 have hq := qgl neg false va vb (.slice none 0 0) (.slice none 0 0) A B [] [] ha hb (Ws.nil I) (Ws.nil I)
 rw [q4s] at hq
 intro w hw
 refine qn _ func112 rfl ntmps112 rfl ?_ hw;refine sR ?_;refine vh trivial rfl rfl rfl (fun b1 => ?_);refine oV ?_;refine nS ?_;refine oF 4 underlying69 sizeOf35 ?_;refine oA isAgg35 sizeOf35 ?_;refine qw trivial rfl (qbk) rfl .nil ?_;refine oQ call67 rfl hq ?_;refine oV ?_;refine oN (tC (cS (cB (sR ?_))));refine oF 0 underlying69 sizeOf3 ?_;refine oL isAgg3 ?_;iterate 2 refine oV ?_
 refine nT ?_;refine cC rfl (fun h1 => ?_) (fun h1 => ?_)
 ·
  have f1 := h1;try simp only [bl] at f1
  refine sR ?_;refine oF 1 underlying69 sizeOf3 ?_;refine oL isAgg3 ?_;refine oV ?_;refine' oY (fun hb15 => ?_) ?_;rotate_left
  ·
   have fb15 := hb15
   try simp only [bl] at fb15
   refine gF hb15 2 underlying69 sizeOf3 ?_;refine gL hb15 isAgg3 ?_;refine gV hb15 ?_;refine oN ?_;exact qa rfl
  refine' oY (fun hb20 => ?_) ?_;rotate_left
  ·
   have fb20 := hb20
   try simp only [bl] at fb20
   refine gF hb20 3 underlying69 sizeOf3 ?_;refine gL hb20 isAgg3 ?_;refine gV hb20 ?_;refine oN ?_;exact qa rfl
  refine oV ?_;refine oN (tC (cT (qb (tR ?_))));refine ret1 rfl rfl ?_;refine qe (congrArg Value.bool ?_)
  unfold zo
  dsimp only
  (generalize qx neg A B = Z at *
   repeat (rw [if_pos (by omega)])
   try rw [Bool.eq_iff_iff]
   (cases Z <;> simp_all <;> omega))
 have f1 := h1;try simp only [bl] at f1
 refine sR ?_;refine oF 0 underlying69 sizeOf3 ?_;refine oL isAgg3 ?_;refine oV ?_;refine' oY (fun hb29 => ?_) ?_;rotate_left
 ·
  have fb29 := hb29
  try simp only [bl] at fb29
  refine gF hb29 0 underlying69 sizeOf3 ?_;refine gL hb29 isAgg3 ?_;refine gV hb29 ?_;refine oN ?_;exact qa rfl
 refine oV ?_;refine nT ?_;refine cC rfl (fun h2 => ?_) (fun h2 => ?_)
 ·
  have f2 := h2;try simp only [bl] at f2
  refine sR ?_;refine oV ?_;refine' oY (fun hb35 => ?_) ?_;rotate_left
  ·
   have fb35 := hb35
   try simp only [bl] at fb35
   refine gF hb35 3 underlying69 sizeOf3 ?_;refine gL hb35 isAgg3 ?_;refine gV hb35 ?_;refine oN ?_;exact qa rfl
  refine oV ?_;refine oN (tC (cT (qb (tR ?_))));refine ret1 rfl rfl ?_;refine qe (congrArg Value.bool ?_)
  unfold zo
  dsimp only
  (generalize qx neg A B = Z at *
   repeat (first | rw [if_pos (by omega)] | rw [if_neg (by omega)])
   try rw [Bool.eq_iff_iff]
   (cases Z <;> simp_all <;> omega))
 have f2 := h2;try simp only [bl] at f2
 refine sR ?_;refine oF 0 underlying69 sizeOf3 ?_;refine oL isAgg3 ?_;iterate 2 refine oV ?_
 refine nT ?_;refine cC rfl (fun h3 => ?_) (fun h3 => ?_)
 ·
  have f3 := h3;try simp only [bl] at f3
  refine sR ?_;refine oV ?_;refine' oY (fun hb45 => ?_) ?_;rotate_left
  ·
   have fb45 := hb45
   try simp only [bl] at fb45
   refine gF hb45 2 underlying69 sizeOf3 ?_;refine gL hb45 isAgg3 ?_;refine gV hb45 ?_;refine oN ?_;exact qa rfl
  refine' oY (fun hb50 => ?_) ?_;rotate_left
  ·
   have fb50 := hb50
   try simp only [bl] at fb50
   refine gF hb50 3 underlying69 sizeOf3 ?_;refine gL hb50 isAgg3 ?_;refine gV hb50 ?_;refine oN ?_;exact qa rfl
  refine oV ?_;refine oN (tC (cT (qb (tR ?_))));refine ret1 rfl rfl ?_;refine qe (congrArg Value.bool ?_)
  unfold zo
  dsimp only
  (generalize qx neg A B = Z at *
   repeat (first | rw [if_pos (by omega)] | rw [if_neg (by omega)])
   try rw [Bool.eq_iff_iff]
   (cases Z <;> simp_all <;> omega))
 have f3 := h3;try simp only [bl] at f3
 refine sR ?_;refine oF 0 underlying69 sizeOf3 ?_;refine oL isAgg3 ?_;iterate 2 refine oV ?_
 refine nT ?_;refine cC rfl (fun h4 => ?_) (fun h4 => ?_)
 ·
  have f4 := h4;try simp only [bl] at f4
  refine sR ?_;refine oV ?_;refine' oY (fun hb60 => ?_) ?_;rotate_left
  ·
   have fb60 := hb60
   try simp only [bl] at fb60
   refine gF hb60 2 underlying69 sizeOf3 ?_;refine gL hb60 isAgg3 ?_;refine gV hb60 ?_;refine oN ?_;exact qa rfl
  refine oV ?_;refine oN (tC (cT (qb (tR ?_))));refine ret1 rfl rfl ?_;refine qe (congrArg Value.bool ?_)
  unfold zo
  dsimp only
  (generalize qx neg A B = Z at *
   repeat (first | rw [if_pos (by omega)] | rw [if_neg (by omega)])
   try rw [Bool.eq_iff_iff]
   (cases Z <;> simp_all <;> omega))
 have f4 := h4;try simp only [bl] at f4
 refine cK (qg (tC (sR ?_)));refine oV ?_;refine nE ?_;refine ret1 rfl rfl ?_;refine qe (congrArg Value.bool ?_)
 unfold zo
 dsimp only
 first
   | (exfalso; omega)
   | (generalize qx neg A B = Z at *
      repeat (rw [if_neg (by omega)])
      try rw [Bool.eq_iff_iff]
      done)
def wR (o : OpC) (l : List Nat) : Option Nat := if vw o then wgt o l else none
def wRT (o : OpC) (l : List Nat) (v : Value) : Prop := ∃ m : Int,v = .int .i64 m ∧ (∀ k,wR o l = some k → m = k) ∧ (wR o l = none → m < 0 ∨ 200 < m)
theorem qmk {o : OpC} {l : List Nat} (h : wR o l = none) : wRT o l (.int .i64 (-1)) := ⟨-1,rfl,fun k hk => (by rw [h] at hk; cases hk),fun _ => by omega⟩
theorem qcy {o : OpC} {l : List Nat} {M : Nat} {m : Int} (h : wR o l = if M ≤ 200 then some M else none) (hm : m = M) : wRT o l (.int .i64 m) :=
 ⟨m, rfl, fun k hk => by rw [h] at hk; split at hk <;> cases hk; exact hm, fun hk => by
   rw [h] at hk
   split at hk
   · cases hk
   · omega⟩
theorem qtp {o : OpC} (h : o.code = 1) : vw o = (yb o.neg o.n o.d && zo o) := by
 unfold vw zo; rw [if_pos h,if_pos h]
theorem q4u {o : OpC} (h : zo o = false) : vw o = false := by
 unfold zo at h
 unfold vw
 split
 · rename_i h1; rw [if_pos h1] at h; rw [h,Bool.and_false]
 · rename_i h1
   rw [if_neg h1] at h
   split
   · rename_i h2; rw [if_pos h2] at h; exact h
   · rename_i h2
     rw [if_neg h2] at h
     split
     · rename_i h3; rw [if_pos h3] at h; exact h
     · rename_i h3
       rw [if_neg h3] at h
       split
       · rename_i h4
         rw [if_pos h4] at h
         cases hz : qx o.neg o.n o.d
         · rfl
         · rw [hz] at h
           simp at h
           simp [h]
       · rfl
theorem qtq {o : OpC} (h1 : ¬ o.code = 1) (h : zo o = true) (he : -20 ≤ o.e ∧ o.e ≤ 20) : vw o = true := by
 unfold zo at h
 unfold vw
 rw [if_neg h1] at h ⊢
 split
 · rename_i h2; rw [if_pos h2] at h; exact h
 · rename_i h2
   rw [if_neg h2] at h
   split
   · rename_i h3; rw [if_pos h3] at h; exact h
   · rename_i h3
     rw [if_neg h3] at h
     split
     · rename_i h4
       rw [if_pos h4] at h
       simp only [Bool.and_eq_true,decide_eq_true_eq] at h ⊢
       exact ⟨h.1,h.2,he⟩
     · rename_i h4; rw [if_neg h4] at h; exact h
theorem q4v {o : OpC} (h1 : ¬ o.code = 1) (he : ¬ (-20 ≤ o.e ∧ o.e ≤ 20)) : vw o = false := by
 unfold vw
 rw [if_neg h1]
 split
 · rw [show decide (o.e = 0) = false from decide_eq_false (by omega),Bool.and_false]
 · split
   · rw [show decide (o.b = 0 ∧ o.e = 0) = false from decide_eq_false (by omega),Bool.and_false]
   · split
     · rw [show decide (o.b = 0 ∧ -20 ≤ o.e ∧ o.e ≤ 20) = false from decide_eq_false (by omega),Bool.and_false]
     · rfl
theorem q4w {o : OpC} (h : zo o = true) (h1 : ¬ o.code = 1) : 2 ≤ o.code ∧ o.code ≤ 7 := by
 unfold zo at h
 rw [if_neg h1] at h
 split at h
 · omega
 · split at h
   · omega
   · split at h
     · omega
     · cases h
theorem q4x (code a b e : Int) (neg : Bool) (va vb u : Value) (A B : List Nat) (l : List Nat) {I : Hp} (ha : Ws I va A) (hb : Ws I vb B) (hA : A.length ≤ 3000) (hB : B.length ≤ 3000) (hl : l.length ≤ 1000000) (hl2 : ∀ x ∈ l, x ≤ 200) : Fun prog 69 [.agg #[.int .i64 code, .int .i64 a, .int .i64 b, .int .i64 e, .bool neg, va, vb], u] I [.row u 3 1 l.length (nvs l)]
   (fun v I' B' => I = I' ∧ B' = [.row u 3 1 l.length (nvs l)] ∧ wRT ⟨code,a,b,e,neg,A,B⟩ l v) := by
 have ga := qet hl2 a.toNat
 have gb := qet hl2 b.toNat
 have hda := qdi ha.wds hA
 have hdb := qdi hb.wds hB
 have hsa := j7 (val A)
 have hsb := j7 (val B)
 intro w hw
 refine qz _ func69 rfl ntmps69 rfl ?_ hw;refine sR ?_;refine vh trivial rfl rfl rfl (fun b2 => ?_);refine oV ?_;refine nS ?_;refine oA isAgg69 sizeOf69 ?_;refine oQ call112 rfl (q4t code a b e neg _ _ _ _ ha hb) ?_;refine oV ?_;refine nU ?_;iterate 2 refine oV ?_
 refine nT ?_;refine cC rfl (fun h1 => ?_) (fun h1 => ?_)
 ·
  have f1 := h1;try simp only [bl] at f1
  have hz : wR ⟨code,a,b,e,neg,A,B⟩ l = none := by unfold wR; rw [q4u f1]; rfl
  refine sR ?_;refine oV ?_;refine nF ?_;refine ret1 rfl rfl ?_;exact leaf (Ext.refl _ _) (List.sublist_cons_self _ _) ⟨rfl,rfl,qmk hz⟩
 have f1 := h1;try simp only [bl] at f1
 refine cK (tC (cS (sR ?_)));refine oF 0 underlying69 sizeOf3 ?_;refine oL isAgg3 ?_;refine oV ?_;refine nT ?_;refine cC rfl (fun h2 => ?_) (fun h2 => ?_)
 ·
  have f2 := h2;try simp only [bl] at f2
  refine sR ?_;refine oF 4 underlying69 sizeOf35 ?_;refine oA isAgg35 sizeOf35 ?_;refine oQ call77 rfl (qsk neg _ _ _ _ ha hb hA hB) ?_;refine oV ?_;refine nU ?_;iterate 2 refine oV ?_
  refine' oZ (fun hb20 => ?_) ?_;rotate_left
  ·
   have fb20 := hb20
   try simp only [bl] at fb20
   refine gF hb20 4 underlying69 sizeOf35 ?_;refine gF hb20 1 underlying35 sizeOf33 ?_;refine gL hb20 isAgg33 ?_;refine yd (wS rfl rfl hb20) rfl call78 rfl (qii _ _ ha (by omega)) ?_;refine yj (wS rfl rfl hb20) rfl underlying9 rfl ?_;refine gV hb20 ?_;refine oN ?_;exact qa rfl
  refine' oZ (fun hb28 => ?_) ?_;rotate_left
  ·
   have fb28 := hb28
   try simp only [bl] at fb28
   refine gF hb28 4 underlying69 sizeOf35 ?_;refine gF hb28 2 underlying35 sizeOf33 ?_;refine gL hb28 isAgg33 ?_;refine yd (wS rfl rfl hb28) rfl call78 rfl (qii _ _ hb (by omega)) ?_;refine yj (wS rfl rfl hb28) rfl underlying9 rfl ?_;refine gV hb28 ?_;refine oN ?_;exact qa rfl
  refine nT ?_;refine cC rfl (fun h3 => ?_) (fun h3 => ?_)
  ·
   have f3 := h3;try simp only [bl] at f3
   have hz : wR ⟨code,a,b,e,neg,A,B⟩ l = none := by
     unfold wR
     rw [qtp f2,f1,Bool.and_true]
     unfold yb
     dsimp only
     rcases f3 with (f3 | f3) | f3
     · rw [f3]; rfl
     · rw [show decide ((digs (val A)).length ≤ 40) = false from decide_eq_false (by omega),Bool.and_false,Bool.false_and]; rfl
     · rw [show decide ((digs (val B)).length ≤ 40) = false from decide_eq_false (by omega),Bool.and_false]; rfl
   refine sR ?_;refine oV ?_;refine oN (tC (cT (tR (tR ?_))));refine ret1 rfl rfl ?_;exact leaf (Ext.refl _ _) (List.sublist_cons_self _ _) ⟨rfl,rfl,qmk hz⟩
  have f3 := h3;try simp only [bl] at f3
  have hz : wR ⟨code,a,b,e,neg,A,B⟩ l = some 1 := by
    unfold wR
    rw [qtp f2,f1,Bool.and_true]
    unfold yb
    dsimp only
    obtain ⟨⟨k1,k2⟩,k3⟩ := f3
    rw [k1,show decide ((digs (val A)).length ≤ 40) = true from decide_eq_true (by omega),show decide ((digs (val B)).length ≤ 40) = true from decide_eq_true (by omega)]
    show wgt ⟨code,a,b,e,neg,A,B⟩ l = some 1
    exact if_pos f2
  refine kS ?_;refine oV ?_;refine nF ?_;refine ret1 rfl rfl ?_;exact leaf (Ext.refl _ _) (List.sublist_cons_self _ _) ⟨rfl,rfl,1,rfl,fun k hk => by rw [hz] at hk; cases hk; rfl,fun hk => by rw [hz] at hk; cases hk⟩
 have f2 := h2;try simp only [bl] at f2
 refine cK (tC (cS (sR ?_)));refine oF 1 underlying69 sizeOf3 ?_;refine oL isAgg3 ?_;refine oV ?_;refine' oZ (fun hb39 => ?_) ?_;rotate_left
 ·
  have fb39 := hb39
  try simp only [bl] at fb39
  refine gF hb39 1 underlying69 sizeOf3 ?_;refine gL hb39 isAgg3 ?_;refine gV hb39 ?_;refine yw (wS rfl rfl hb39) rfl underlying52 rfl (by repeat constructor) ?_;refine gV hb39 ?_;refine oN ?_;exact qa rfl
 refine' oZ (fun hb46 => ?_) ?_;rotate_left
 ·
  have fb46 := hb46
  try simp only [bl] at fb46
  refine gF hb46 2 underlying69 sizeOf3 ?_;refine gL hb46 isAgg3 ?_;refine gV hb46 ?_;refine oN ?_;exact qa rfl
 refine' oZ (fun hb51 => ?_) ?_;rotate_left
 ·
  have fb51 := hb51
  try simp only [bl] at fb51
  refine gF hb51 2 underlying69 sizeOf3 ?_;refine gL hb51 isAgg3 ?_;refine gV hb51 ?_;refine yw (wS rfl rfl hb51) rfl underlying52 rfl (by repeat constructor) ?_;refine gV hb51 ?_;refine oN ?_;exact qa rfl
 refine' oZ (fun hb58 => ?_) ?_;rotate_left
 ·
  have fb58 := hb58
  try simp only [bl] at fb58
  refine gF hb58 3 underlying69 sizeOf3 ?_;refine gL hb58 isAgg3 ?_;refine gV hb58 ?_;refine oN ?_;exact qa rfl
 refine' oZ (fun hb63 => ?_) ?_;rotate_left
 ·
  have fb63 := hb63
  try simp only [bl] at fb63
  refine gF hb63 3 underlying69 sizeOf3 ?_;refine gL hb63 isAgg3 ?_;refine gV hb63 ?_;refine oN ?_;exact qa rfl
 refine nT ?_;refine cC rfl (fun h4 => ?_) (fun h4 => ?_)
 ·
  have f4 := h4;try simp only [bl] at f4
  have hz : wR ⟨code,a,b,e,neg,A,B⟩ l = none := by
    unfold wR
    by_cases he : -20 ≤ e ∧ e ≤ 20
    · rw [qtq f2 f1 he]
      unfold wgt
      dsimp only
      have n2 : a < 0 ∨ (l.length : Int) ≤ a ∨ b < 0 ∨ (l.length : Int) ≤ b := by omega
      rw [if_neg f2,if_pos n2]; rfl
    · rw [q4v (o := ⟨code,a,b,e,neg,A,B⟩) f2 he]; rfl
  refine sR ?_;refine oV ?_;refine nF ?_;refine ret1 rfl rfl ?_;exact leaf (Ext.refl _ _) (List.sublist_cons_self _ _) ⟨rfl,rfl,qmk hz⟩
 have f4 := h4;try simp only [bl] at f4
 have hcd := q4w (o := ⟨code,a,b,e,neg,A,B⟩) f1 f2
 have he : -20 ≤ e ∧ e ≤ 20 := by omega
 have n2 : ¬ (a < 0 ∨ (l.length : Int) ≤ a ∨ b < 0 ∨ (l.length : Int) ≤ b) := by omega
 have hwr : wR ⟨code,a,b,e,neg,A,B⟩ l = if wgtM ⟨code,a,b,e,neg,A,B⟩ l ≤ 200 then some (wgtM ⟨code,a,b,e,neg,A,B⟩ l) else none := by
   unfold wR
   rw [qtq f2 f1 he]
   unfold wgt
   dsimp only
   rw [if_neg f2,if_neg n2]; rfl
 have hm20 : l.getD a.toNat 0 * max 1 e.natAbs ≤ 200 * 20 := Nat.mul_le_mul ga (by omega)
 refine kS ?_;refine oV ?_;refine oF 1 underlying69 sizeOf3 ?_;refine oL isAgg3 ?_;refine zv trivial rfl underlying52 sizeOf3 rfl (by repeat constructor) rfl (by omega) ?_;refine j0 trivial rfl isAgg3 (by repeat constructor) rfl (by rw [Nat.mul_one]; exact qbr (by omega)) ?_;refine oV ?_;refine nU ?_;refine oF 0 underlying69 sizeOf3 ?_;refine oL isAgg3 ?_;refine oV ?_;refine nT ?_;refine cC rfl (fun h5 => ?_) (fun h5 => ?_)
 ·
  have f5 := h5;try simp only [bl] at f5
  refine cR ?_;iterate 2 refine oV ?_
  refine oF 2 underlying69 sizeOf3 ?_;refine oL isAgg3 ?_;refine zv trivial rfl underlying52 sizeOf3 rfl (by repeat constructor) rfl (by omega) ?_;refine j0 trivial rfl isAgg3 (by repeat constructor) rfl (by rw [Nat.mul_one]; exact qbr (by omega)) ?_
  (refine qh trivial rfl rfl rfl ?_ ?_; (omega))
  refine oV ?_;refine nU ?_;refine oF 0 underlying69 sizeOf3 ?_;refine oL isAgg3 ?_;refine oV ?_;refine' oY (fun hb86 => ?_) ?_;rotate_left
  ·
   have fb86 := hb86
   try simp only [bl] at fb86
   refine gF hb86 3 underlying69 sizeOf3 ?_;refine gL hb86 isAgg3 ?_;refine gV hb86 ?_;refine oN ?_;exact qa rfl
  refine nT ?_;refine cC rfl (fun h6 => ?_) (fun h6 => ?_)
  ·
   have f6 := h6;try simp only [bl] at f6
   refine cR ?_;refine oV ?_;refine oF 3 underlying69 sizeOf3 ?_;refine oL isAgg3 ?_;refine oV ?_
   (refine jy trivial rfl rfl rfl ?_ ?_; (omega))
   refine oV ?_;refine nU ?_;refine oF 0 underlying69 sizeOf3 ?_;refine oL isAgg3 ?_;refine oV ?_;refine' oY (fun hb99 => ?_) ?_;rotate_left
   ·
    have fb99 := hb99
    try simp only [bl] at fb99
    refine gF hb99 3 underlying69 sizeOf3 ?_;refine gL hb99 isAgg3 ?_;refine gV hb99 ?_;refine oN ?_;exact qa rfl
   refine nT ?_;refine cC rfl (fun h7 => ?_) (fun h7 => ?_)
   ·
    have f7 := h7;try simp only [bl] at f7
    refine cR ?_;refine oV ?_;refine oF 3 underlying69 sizeOf3 ?_;refine oL isAgg3 ?_
    (refine jy trivial rfl rfl rfl ?_ ?_; (omega))
    refine oV ?_;refine nS ?_;iterate 2 refine oV ?_
    refine nE ?_;refine ret1 rfl rfl ?_;refine leaf (Ext.refl _ _) (List.sublist_cons_self _ _) ⟨rfl,rfl,qcy hwr ?_⟩
    unfold wgtM
    dsimp only at hcd ⊢
    (exfalso; omega)
   have f7 := h7;try simp only [bl] at f7
   refine kS ?_;iterate 2 refine oV ?_
   refine nE ?_;refine ret1 rfl rfl ?_;refine leaf (Ext.refl _ _) (List.sublist_cons_self _ _) ⟨rfl,rfl,qcy hwr ?_⟩
   unfold wgtM
   dsimp only at hcd ⊢
   (exfalso; omega)
  have f6 := h6;try simp only [bl] at f6
  refine cK (tC (cS (sR ?_)));refine oF 0 underlying69 sizeOf3 ?_;refine oL isAgg3 ?_;refine oV ?_;refine' oY (fun hb99 => ?_) ?_;rotate_left
  ·
   have fb99 := hb99
   try simp only [bl] at fb99
   refine gF hb99 3 underlying69 sizeOf3 ?_;refine gL hb99 isAgg3 ?_;refine gV hb99 ?_;refine oN ?_;exact qa rfl
  refine nT ?_;refine cC rfl (fun h7 => ?_) (fun h7 => ?_)
  ·
   have f7 := h7;try simp only [bl] at f7
   refine cR ?_;refine oV ?_;refine oF 3 underlying69 sizeOf3 ?_;refine oL isAgg3 ?_
   (refine jy trivial rfl rfl rfl ?_ ?_; (omega))
   refine oV ?_;refine nS ?_;iterate 2 refine oV ?_
   refine nE ?_;refine ret1 rfl rfl ?_;refine leaf (Ext.refl _ _) (List.sublist_cons_self _ _) ⟨rfl,rfl,qcy hwr ?_⟩
   unfold wgtM
   dsimp only at hcd ⊢
   (exfalso; omega)
  have f7 := h7;try simp only [bl] at f7
  refine kS ?_;iterate 2 refine oV ?_
  refine nE ?_;refine ret1 rfl rfl ?_;refine leaf (Ext.refl _ _) (List.sublist_cons_self _ _) ⟨rfl,rfl,qcy hwr ?_⟩
  unfold wgtM
  dsimp only at hcd ⊢
  (rw [if_pos (show 2 ≤ code ∧ code ≤ 5 by omega)]; rfl)
 have f5 := h5;try simp only [bl] at f5
 refine cK (tC (cS (sR ?_)));refine oF 0 underlying69 sizeOf3 ?_;refine oL isAgg3 ?_;refine oV ?_;refine' oY (fun hb86 => ?_) ?_;rotate_left
 ·
  have fb86 := hb86
  try simp only [bl] at fb86
  refine gF hb86 3 underlying69 sizeOf3 ?_;refine gL hb86 isAgg3 ?_;refine gV hb86 ?_;refine oN ?_;exact qa rfl
 refine nT ?_;refine cC rfl (fun h6 => ?_) (fun h6 => ?_)
 ·
  have f6 := h6;try simp only [bl] at f6
  refine cR ?_;refine oV ?_;refine oF 3 underlying69 sizeOf3 ?_;refine oL isAgg3 ?_;refine oV ?_;refine oV ?_;refine oV ?_;refine nU ?_;refine oF 0 underlying69 sizeOf3 ?_;refine oL isAgg3 ?_;refine oV ?_;refine' oY (fun hb99 => ?_) ?_;rotate_left
  ·
   have fb99 := hb99
   try simp only [bl] at fb99
   refine gF hb99 3 underlying69 sizeOf3 ?_;refine gL hb99 isAgg3 ?_;refine gV hb99 ?_;refine oN ?_;exact qa rfl
  refine nT ?_;refine cC rfl (fun h7 => ?_) (fun h7 => ?_)
  ·
   have f7 := h7;try simp only [bl] at f7
   refine cR ?_;refine oV ?_;refine oF 3 underlying69 sizeOf3 ?_;refine oL isAgg3 ?_
   (refine jy trivial rfl rfl rfl ?_ ?_; (omega))
   refine oV ?_;refine nS ?_;iterate 2 refine oV ?_
   refine nE ?_;refine ret1 rfl rfl ?_;refine leaf (Ext.refl _ _) (List.sublist_cons_self _ _) ⟨rfl,rfl,qcy hwr ?_⟩
   unfold wgtM
   dsimp only at hcd ⊢
   (exfalso; omega)
  have f7 := h7;try simp only [bl] at f7
  refine kS ?_;iterate 2 refine oV ?_
  refine nE ?_;refine ret1 rfl rfl ?_;refine leaf (Ext.refl _ _) (List.sublist_cons_self _ _) ⟨rfl,rfl,qcy hwr ?_⟩
  unfold wgtM
  dsimp only at hcd ⊢
  (have h7 : code = 7 := f6.1
   have he0 := f6.2
   rw [if_neg (show ¬ (2 ≤ code ∧ code ≤ 5) by omega),if_pos h7,Nat.max_eq_right (show 1 ≤ e.natAbs by omega)] at *
   rw [show IntKind.i64.wrap (0 - e) = ((e.natAbs : Nat) : Int) by rw [IntWalk.i64_in _ (by omega)]; omega,← Int.natCast_mul,IntWalk.i64_in _ (by omega)])
 have f6 := h6;try simp only [bl] at f6
 refine cK (tC (cS (sR ?_)));refine oF 0 underlying69 sizeOf3 ?_;refine oL isAgg3 ?_;refine oV ?_;refine' oY (fun hb99 => ?_) ?_;rotate_left
 ·
  have fb99 := hb99
  try simp only [bl] at fb99
  refine gF hb99 3 underlying69 sizeOf3 ?_;refine gL hb99 isAgg3 ?_;refine gV hb99 ?_;refine oN ?_;exact qa rfl
 refine nT ?_;refine cC rfl (fun h7 => ?_) (fun h7 => ?_)
 ·
  have f7 := h7;try simp only [bl] at f7
  refine cR ?_;refine oV ?_;refine oF 3 underlying69 sizeOf3 ?_;refine oL isAgg3 ?_;refine oV ?_;refine oV ?_;refine nS ?_;iterate 2 refine oV ?_
  refine nE ?_;refine ret1 rfl rfl ?_;refine leaf (Ext.refl _ _) (List.sublist_cons_self _ _) ⟨rfl,rfl,qcy hwr ?_⟩
  unfold wgtM
  dsimp only at hcd ⊢
  (have h7 : code = 7 := f7.1
   have he0 := f7.2
   rw [if_neg (show ¬ (2 ≤ code ∧ code ≤ 5) by omega),if_pos h7]
   have hmx : max 1 e.natAbs = e.natAbs := Nat.max_eq_right (show 1 ≤ e.natAbs by omega)
   rw [hmx] at hm20 ⊢
   have he1 : (l.getD a.toNat 0 : Int) * e = ((l.getD a.toNat 0 * e.natAbs : Nat) : Int) := by rw [Int.natCast_mul]; congr 1; omega
   rw [he1,IntWalk.i64_in _ (by omega)])
 have f7 := h7;try simp only [bl] at f7
 refine kS ?_;iterate 2 refine oV ?_
 refine nE ?_;refine ret1 rfl rfl ?_;refine leaf (Ext.refl _ _) (List.sublist_cons_self _ _) ⟨rfl,rfl,qcy hwr ?_⟩
 unfold wgtM
 dsimp only at hcd ⊢
 (by_cases h7 : code = 7
  · have he0 : e = 0 := by omega
    rw [if_neg (show ¬ (2 ≤ code ∧ code ≤ 5) by omega),if_pos h7,he0]
    show _ = ((_ * 1 : Nat) : Int)
    rw [Nat.mul_one]
  · rw [if_neg (show ¬ (2 ≤ code ∧ code ≤ 5) by omega),if_neg h7])
def nls (l : List Nat) : List (List Value) := l.map fun (x : Nat) => [Value.int .i64 (x : Int)]
theorem qtr (l : List Nat) : (nls l).length = l.length := by simp [nls]
theorem q4y {ops : List OpC} {i : Nat} {o : OpC} (h : ops[i]? = some o) (l : List Nat) : wgts (ops.drop i) l = match wR o l with | some m => wgts (ops.drop (i + 1)) (l ++ [m]) | none => none := by
 rw [qqm h]
 unfold wR
 cases vw o <;> rfl
theorem q4z (t : jw) (vo vu : Value) (os : List OpV) {I : Hp} (ht : jp I vo vu t os) (hf : ∀ o ∈ t.ops,OpC.few 3000 o) : Fun prog 38 [.agg #[.int .i64 t.ins,vo,vu]] I [] (fun v I' _ => Slc I' 1 v (nls ((v7 t).getD []))) := by
 have hol : os.length = t.ops.length := by rw [← ht.eq,List.length_map]
 have hoc : ∀ {i : Nat} {o : OpV},os[i]? = some o → t.ops[i]? = some o.c := fun {i o} h => by rw [← ht.eq,List.getElem?_map,h]; rfl
 have hso := ht.so
 have hsu := ht.su
 intro w hw
 refine qn _ func38 rfl ntmps38 rfl ?_ hw;refine sR ?_;refine vh trivial rfl rfl rfl (fun b1 => ?_);refine oV ?_;refine nU ?_;refine oF 0 underlying56 sizeOf3 ?_
 have hul := qb3 t.outs
 have hml : (os.map OpV.cells).length = t.ops.length := by rw [List.length_map,hol]
 refine oL isAgg3 ?_;refine oV ?_;refine' oZ (fun hb11 => ?_) ?_;rotate_left
 ·
  have fb11 := hb11
  try simp only [bl] at fb11
  refine gF hb11 0 underlying56 sizeOf3 ?_;refine gL hb11 isAgg3 ?_;refine gV hb11 ?_;refine oN ?_;exact qa rfl
 refine' oZ (fun hb16 => ?_) ?_;rotate_left
 ·
  have fb16 := hb16
  try simp only [bl] at fb16
  refine gF hb16 2 underlying56 sizeOf52 ?_;refine gL hb16 isAgg52 ?_;refine qu (wS rfl rfl hb16) rfl underlying52 rfl (hsu) ?_;refine gV hb16 ?_;refine oN ?_;exact qa rfl
 refine' oZ (fun hb22 => ?_) ?_;rotate_left
 ·
  have fb22 := hb22
  try simp only [bl] at fb22
  refine gF hb22 2 underlying56 sizeOf52 ?_;refine gL hb22 isAgg52 ?_;refine qu (wS rfl rfl hb22) rfl underlying52 rfl (hsu) ?_;refine gV hb22 ?_;refine oN ?_;exact qa rfl
 refine' oZ (fun hb28 => ?_) ?_;rotate_left
 ·
  have fb28 := hb28
  try simp only [bl] at fb28
  refine gF hb28 1 underlying56 sizeOf54 ?_;refine gL hb28 isAgg54 ?_;refine qu (wS rfl rfl hb28) rfl underlying54 rfl (hso) ?_;refine gV hb28 ?_;refine oN ?_;exact qa rfl
 refine nT ?_;refine cC rfl (fun h1 => ?_) (fun h1 => ?_)
 ·
  have f1 := h1;try simp only [bl] at f1
  have hno : v7 t = none := by unfold v7; rw [if_pos (by omega)]
  refine sR ?_;refine oV ?_;refine nF ?_;refine ret1 rfl rfl ?_;refine qe ?_; rw [hno]; exact Slc.nil _ _
 have f1 := h1;try simp only [bl] at f1
 have hgd : ¬ (t.ins < 1 ∨ 40 < t.ins ∨ t.outs.length < 1 ∨ 40 < t.outs.length ∨ 400 < t.ops.length) := by omega
 refine kS ?_;refine oV ?_;refine nU ?_;refine oV ?_;refine oN (tC (cB ?_));refine qt (ι := Nat × Value) [1] (.cons rfl .nil) (fun x => t.ins.toNat - x.1) (fun x E0 => (3,x.2) :: (4,.int .i64 (x.1 : Int)) :: E0) (fun x => St w [] I [.row x.2 3 1 x.1 (nvs (List.replicate x.1 1)),.box b1 (.cells ([.int .i64 t.ins,vo,vu] : List Value).toArray 56 (0,0))]) (fun x => x.1 ≤ t.ins.toNat) ((0,.slice none 0 0)) (sC rfl (sC rfl (sC rfl sN))) (fun _ h => h.nilRow _ _) (Nat.zero_le _) ?_;rintro ⟨i,u⟩ hi
 try dsimp only
 simp only at hi
 refine cS (sR ?_);refine oV ?_;refine oF 0 underlying56 sizeOf3 ?_;refine oL isAgg3 ?_;refine oV ?_;refine nT ?_;refine cC rfl (fun h2 => ?_) (fun h2 => ?_)
 ·
  have f2 := h2;try simp only [bl] at f2
  refine cK (tC (cS (cB (cR ?_))));refine oV ?_;refine oB underlying52 sizeOf3 zeroValue3 fun b41 => ?_;refine oD underlying52 zd fun v42 => ?_;refine oV ?_;refine oN (qg (tC (cR ?_)));refine oV ?_
  (refine qh trivial rfl rfl rfl ?_ ?_; (omega))
  refine oV ?_;refine oN ?_;exact ql (i + 1,v42) (sC rfl (sC rfl (sC rfl sN))) (fun _ h => by rw [← qqn]; exact h.sort (by repeat constructor)) (by show t.ins.toNat - (i + 1) < t.ins.toNat - i; omega) (by show i + 1 ≤ _; omega)
 have f2 := h2;try simp only [bl] at f2
 refine qp (qc (qc (qo rfl (tC (cS (cS ?_))))))
 have hin : i = t.ins.toNat := by omega
 subst hin
 refine cR ?_;refine oV ?_;refine oN (tC (cB ?_));refine qt (ι := Nat × List Nat × Value) [1] (.cons rfl .nil) (fun x => t.ops.length - x.1) (fun x E0 => (3,x.2.2) :: (5,.int .i64 (x.1 : Int)) :: E0) (fun x => St w [] I [.row x.2.2 3 1 x.2.1.length (nvs x.2.1),.box b1 (.cells ([.int .i64 t.ins,vo,vu] : List Value).toArray 56 (0,0))]) (fun x => x.1 ≤ t.ops.length ∧ x.2.1.length = t.ins.toNat + x.1 ∧ (∀ y ∈ x.2.1,y ≤ 200) ∧ wgts t.ops (List.replicate t.ins.toNat 1) = wgts (t.ops.drop x.1) x.2.1) ((0,List.replicate t.ins.toNat 1,u)) (sC rfl (sC rfl (sC rfl sN))) (fun _ h => by rw [List.length_replicate]; exact h) (⟨Nat.zero_le _,by rw [List.length_replicate]; rfl,fun y hy => by rw [(List.mem_replicate.1 hy).2]; decide,rfl⟩) ?_;rintro ⟨i,l,u⟩ ⟨hi,hll,hl2,hW⟩
 try dsimp only
 simp only at hi hll hl2 hW
 refine cS (sR ?_);refine oV ?_;refine oF 1 underlying56 sizeOf54 ?_;refine oL isAgg54 ?_;refine qu trivial rfl underlying54 rfl (hso) ?_;refine oV ?_;refine nT ?_;refine cC rfl (fun h3 => ?_) (fun h3 => ?_)
 ·
  have f3 := h3;try simp only [bl] at f3
  have hio : i < os.length := by omega
  obtain ⟨o,ho⟩ : ∃ o,os[i]? = some o := ⟨os[i],List.getElem?_eq_getElem hio⟩
  obtain ⟨hvn,hvd⟩ := ht.ok o (List.mem_of_getElem? ho)
  have hto := hoc ho
  have hfo := hf o.c (List.mem_of_getElem? hto)
  rw [q4y hto] at hW
  refine cK (tC (cS (cB (sR ?_))));refine oF 1 underlying56 sizeOf54 ?_;refine oL isAgg54 ?_;refine oV ?_;refine vk trivial rfl underlying54 sizeOf69 rfl (hso) rfl (by omega) ?_;refine jz trivial rfl isAgg69 sizeOf69 rfl rfl (OpV.at_ ht ho) ?_;refine oV ?_;refine oC trivial rfl call69 rfl (q4x o.c.code o.c.a o.c.b o.c.e o.c.neg o.vn o.vd u o.c.n o.c.d l hvn hvd hfo.1 hfo.2 (by omega) hl2) (by repeat constructor) ?_;rintro _ _ _ hx2 ⟨rfl,rfl,m,rfl,hm1,hm2⟩;refine oV ?_;refine nU ?_;iterate 2 refine oV ?_
  refine' oZ (fun hb59 => ?_) ?_;rotate_left
  ·
   iterate 2 refine gV hb59 ?_
   refine oN ?_;exact qa rfl
  refine nT ?_;refine cC rfl (fun h4 => ?_) (fun h4 => ?_)
  ·
   have f4 := h4;try simp only [bl] at f4
   have hw5 : wR o.c l = none := by
     cases hc : wR o.c l with
     | none => rfl
     | some k =>
       have h1 := hm1 k hc
       have h2 : k ≤ 200 := by
         unfold wR at hc
         split at hc
         · exact qql hc
         · cases hc
       omega
   have hno : v7 t = none := by unfold v7; rw [if_neg hgd,hW,hw5]
   refine sR ?_;refine oV ?_;refine oN (tC (cT (tR (qb (tR (tR (qb (tR ?_))))))));refine ret1 rfl rfl ?_;refine leaf (Ext.refl _ _) (List.nil_sublist _) ?_; rw [hno]; exact Slc.nil _ _
  have f4 := h4;try simp only [bl] at f4
  obtain ⟨k,hk⟩ : ∃ k,wR o.c l = some k := by
    cases hc : wR o.c l with
    | none => have := hm2 hc; omega
    | some k => exact ⟨k,rfl⟩
  rw [hk] at hW
  have hmk := hm1 k hk
  subst hmk
  refine cK (tC (cR ?_));iterate 2 refine oV ?_
  refine oB underlying52 sizeOf3 zeroValue3 fun b65 => ?_;refine oD underlying52 zd fun v66 => ?_;refine oV ?_;refine oN (qg (tC (cR ?_)));refine oV ?_
  (refine qh trivial rfl rfl rfl ?_ ?_; (omega))
  refine oV ?_;refine oN ?_
  exact ql (i + 1, l ++ [k], v66) (sC rfl (sC rfl (sC rfl sN))) (fun _ h => by rw [← qh4, List.length_append]; exact h.sort (by repeat constructor)) (by show t.ops.length - (i + 1) < t.ops.length - i; omega) ⟨by show i + 1 ≤ _; omega, by simp only [List.length_append, List.length_cons, List.length_nil]; omega, by
    intro y hy
    rcases List.mem_append.1 hy with hy | hy
    · exact hl2 y hy
    · rw [List.mem_singleton.1 hy]; omega,hW⟩
 have f3 := h3;try simp only [bl] at f3
 refine qp (qc (qc (qo rfl (tC (cS (cS ?_))))))
 have hio : i = t.ops.length := by omega
 subst hio
 rw [List.drop_length] at hW
 refine cR ?_;refine oV ?_;refine oN (tC (cB ?_));refine qt (ι := Nat) [1,3] (.cons rfl (.cons rfl .nil)) (fun x => t.outs.length - x) (fun x E0 => (7,.int .i64 (x : Int)) :: E0) (fun x => St w [] I [.row u 3 1 l.length (nvs l),.box b1 (.cells ([.int .i64 t.ins,vo,vu] : List Value).toArray 56 (0,0))]) (fun x => x ≤ t.outs.length ∧ ((t.outs.take x).all fun z => decide (0 ≤ z ∧ z < l.length)) = true) (0) (sC rfl (sC rfl (sC rfl sN))) (fun _ h => h) (⟨Nat.zero_le _,rfl⟩) ?_;rintro i ⟨hi,hall⟩
 try dsimp only
 refine cS (sR ?_);refine oV ?_;refine oF 2 underlying56 sizeOf52 ?_;refine oL isAgg52 ?_;refine qu trivial rfl underlying52 rfl (hsu) ?_;refine oV ?_;refine nT ?_;refine cC rfl (fun h5 => ?_) (fun h5 => ?_)
 ·
  have f5 := h5;try simp only [bl] at f5
  have hio : i < t.outs.length := by omega
  obtain ⟨z,hz⟩ : ∃ z,t.outs[i]? = some z := ⟨t.outs[i],List.getElem?_eq_getElem hio⟩
  refine cK (tC (cS (cB (sR ?_))));refine oF 2 underlying56 sizeOf52 ?_;refine oL isAgg52 ?_;refine oV ?_;refine vk trivial rfl underlying52 sizeOf3 rfl (hsu) rfl (by omega) ?_;refine q7 trivial rfl isAgg3 rfl (qf6 hsu hz) ?_;refine oV ?_;refine' oZ (fun hb80 => ?_) ?_;rotate_left
  ·
   have fb80 := hb80
   try simp only [bl] at fb80
   refine gF hb80 2 underlying56 sizeOf52 ?_;refine gL hb80 isAgg52 ?_;refine gV hb80 ?_;refine vk (wS rfl rfl hb80) rfl underlying52 sizeOf3 rfl (hsu) rfl (by omega) ?_;refine q7 (wS rfl rfl hb80) rfl isAgg3 rfl (qf6 hsu hz) ?_;refine gV hb80 ?_;refine yw (wS rfl rfl hb80) rfl underlying52 rfl (by repeat constructor) ?_;refine gV hb80 ?_;refine oN ?_;exact qa rfl
  refine nT ?_;refine cC rfl (fun h6 => ?_) (fun h6 => ?_)
  ·
   have f6 := h6;try simp only [bl] at f6
   have hno : v7 t = none := by
     unfold v7; rw [if_neg hgd,hW]
     have hz9 : (t.outs.all fun z => decide (0 ≤ z ∧ z < l.length)) = false := by
       rw [List.all_eq_false]
       exact ⟨z,List.mem_of_getElem? hz,by simp; omega⟩
     show (if (t.outs.all fun z => decide (0 ≤ z ∧ z < l.length)) = true then some l else none) = none
     rw [hz9]; rfl
   refine sR ?_;refine oV ?_;refine oN (tC (cT (qb (tR (tR (qb (tR ?_)))))));refine ret1 rfl rfl ?_;refine leaf (Ext.refl _ _) (List.nil_sublist _) ?_; rw [hno]; exact Slc.nil _ _
  have f6 := h6;try simp only [bl] at f6
  refine cK (qg (tC (cR ?_)));refine oV ?_
  (refine qh trivial rfl rfl rfl ?_ ?_; (omega))
  refine oV ?_;refine oN ?_
  exact ql (i + 1) (sC rfl (sC rfl (sC rfl sN))) (fun _ h => h) (by show t.outs.length - (i + 1) < t.outs.length - i; omega) ⟨by show i + 1 ≤ _; omega, by
    show ((t.outs.take (i + 1)).all _) = true
    rw [List.take_add_one,hz,List.all_append,hall]
    simp; omega⟩
 have f5 := h5;try simp only [bl] at f5
 refine qp (qc (qc (qo rfl (tC (cS ?_)))))
 have hio : i = t.outs.length := by omega
 subst hio
 rw [List.take_length] at hall
 have hyes : v7 t = some l := by unfold v7; rw [if_neg hgd,hW]; show (if (t.outs.all fun z => decide (0 ≤ z ∧ z < l.length)) = true then some l else none) = some l; rw [hall]; rfl
 refine cR ?_;iterate 2 refine oV ?_
 refine nE ?_;refine ret1 rfl rfl ?_;exact fun w' hw' => qgz (e := 3) (size := 1) (nn := l.length) (u := u) (xss := nls l) (by rw [qtr]) (by intro c hc; obtain ⟨x,_,rfl⟩ := List.mem_map.1 hc; rfl) (by unfold maxLen; omega) (fun I' hl hs' => by rw [hyes]; exact hs') w' (by unfold nls; rw [qk5]; exact hw')
theorem q40 {t : jw} {l : List Nat} (h : v7 t = some l) : 0 < l.length := by
 obtain ⟨p1,p2,p3,p4,p5,p6,p7⟩ := q22 h
 have h5 := qsa p6
 rw [List.length_replicate] at h5
 omega
theorem q41 (t : jw) (vo vu : Value) (os : List OpV) {I : Hp} (ht : jp I vo vu t os) (hf : ∀ o ∈ t.ops,OpC.few 3000 o) : Fun prog 35 [.agg #[.int .i64 t.ins,vo,vu]] I [] (fun v _ _ => v = .bool (v7 t).isSome) := by
 intro w hw
 refine qn _ func35 rfl ntmps35 rfl ?_ hw;refine sR ?_;refine vh trivial rfl rfl rfl (fun b1 => ?_);refine oV ?_;refine nS ?_;refine oA isAgg56 sizeOf56 ?_;refine oI call38 rfl (q4z t vo vu os ht hf) ?_;rintro u I1 hx1 hs1;refine qu trivial rfl underlying52 rfl (hs1) ?_;iterate 2 refine oV ?_
 refine nE ?_;refine ret1 rfl rfl ?_;refine leaf hx1 (List.nil_sublist _) (congrArg Value.bool ?_)
 rw [qtr,Bool.eq_iff_iff,decide_eq_true_eq]
 cases hc : v7 t with
 | none => simp
 | some l => have := q40 hc; simp; omega
theorem PtV.one {I : Hp} {b : Nat} {neg : Bool} {n d : List Nat} {vn vd : Value} {T : TypeId} {fz : Nat × Nat} (hb : I b = some (.cells ([.bool neg, vn, vd] ++ [] : List Value).toArray T fz)) (hn : Ws I vn n) (hd : Ws I vd d) : PtV I (.slice (some ⟨b, 0, none⟩) 1 1) [⟨neg, n, d, vn, vd⟩] :=
 ⟨Slc.of_box (xss := [[.bool neg,vn,vd]]) hb (fun c hc => by rw [List.mem_singleton.1 hc]; rfl) (by unfold maxLen; simp) (Nat.le_refl _),fun x hx => by rw [List.mem_singleton.1 hx]; exact ⟨hn,hd⟩⟩
end Go.Proofs.YtfcmhcaggdakbaaGreatDoor
namespace Go.Tw
open Go
def opP (o : OpC) (p q : Rat) : Option Rat :=
 if o.code = 2 then some (p + q)
 else if o.code = 3 then some (p - q)
 else if o.code = 4 then some (p * q)
 else if o.code = 5 then (if q = 0 then none else some (p / q))
 else if o.code = 6 then some (-p)
 else if o.code = 7 then (if o.e < 0 ∧ p = 0 then none else some (p ^ o.e))
 else some (lowQ o.neg (val o.n) (val o.d))
structure qml (o : OpC) (l : List Rat) : Prop where
 place : 0 ≤ o.a ∧ o.a < l.length ∧ 0 ≤ o.b ∧ o.b < l.length
 few : ∀ q ∈ l,Few 1400 q
 pow : o.code = 7 → ∃ c,Few c (zth l o.a) ∧ c ≤ 1300 ∧ c * o.e.natAbs ≤ 1300 ∧ -64 ≤ o.e ∧ o.e ≤ 64
 lits : o.n.length ≤ 3000 ∧ o.d.length ≤ 3000
theorem qml.ok {o : OpC} {l : List Rat} (h : qml o l) : OpOK o l :=
 ⟨fun _ _ => h.place,fun q hq => (h.few q hq).le (by decide),fun h7 => let ⟨c,h1,h2,h3,h4⟩ := h.pow h7; ⟨c,h1,by omega,by omega,h4⟩,by have := h.lits; omega⟩
def qmm : List OpC → List Rat → Prop
 | [],_ => True
 | o :: r,l => qml o l ∧ ∀ q,opR o l = some q → qmm r (l ++ [q])
theorem qmm.ok : ∀ {ops : List OpC} {l : List Rat}, qmm ops l → qr9 ops l
 | [],l,_ => trivial
 | o :: r,l,h => ⟨h.1.ok,fun q hq => (h.2 q hq).ok⟩
end Go.Tw
namespace Go.Proofs.YtfcmhcaggdakbaaGreatDoor
open Go Go.Tw
structure BdQ (w : Nat) (q : Rat) : Prop where
 num : q.num.natAbs ≤ 2 ^ (134 * w - 1)
 den : q.den ≤ 2 ^ (134 * w - 1)
theorem qmn (neg : Bool) (n d : Nat) : (lowQ neg n d).num.natAbs ≤ n ∧ (lowQ neg n d).den ≤ max 1 d := by
 by_cases h : d = 0 ∨ n = 0
 · rw [qhi h]
   exact ⟨Nat.zero_le _,Nat.le_max_left _ _⟩
 · obtain ⟨h1, h2, _⟩ := qfv (neg := neg) (fun e => h (.inr e) : n ≠ 0) (fun e => h (.inl e) : d ≠ 0)
   rw [h1,h2]
   exact ⟨Nat.div_le_self _ _,Nat.le_trans (Nat.div_le_self _ _) (Nat.le_max_right _ _)⟩
theorem q42 (k : Nat) : 1 ≤ 2 ^ k := Nat.pow_pos (by decide)
theorem BdQ.le {w v : Nat} {q : Rat} (h : BdQ w q) (hv : w ≤ v) : BdQ v q :=
 ⟨Nat.le_trans h.num (Nat.pow_le_pow_right (by decide) (by omega)),Nat.le_trans h.den (Nat.pow_le_pow_right (by decide) (by omega))⟩
theorem BdQ.add {w v : Nat} {p q : Rat} (hp : BdQ w p) (hq : BdQ v q) (hw : 1 ≤ w) (hv : 1 ≤ v) : BdQ (w + v) (p + q) := by
 rw [← qx3 p q]
 have e : 2 ^ (134 * (w + v) - 1) = 2 ^ (134 * w - 1) * 2 ^ (134 * v - 1) * 2 := by
   rw [← Nat.pow_add,← Nat.pow_succ]; congr 1; omega
 have hd : p.den * q.den ≤ 2 ^ (134 * w - 1) * 2 ^ (134 * v - 1) := Nat.mul_le_mul hp.den hq.den
 have h1 : p.num.natAbs * q.den ≤ 2 ^ (134 * w - 1) * 2 ^ (134 * v - 1) := Nat.mul_le_mul hp.num hq.den
 have h2 : q.num.natAbs * p.den ≤ 2 ^ (134 * w - 1) * 2 ^ (134 * v - 1) := by rw [Nat.mul_comm]; exact Nat.mul_le_mul hp.den hq.num
 have hn : (p.num * (q.den : Int) + q.num * (p.den : Int)).natAbs ≤ p.num.natAbs * q.den + q.num.natAbs * p.den := by
   refine Nat.le_trans (Int.natAbs_add_le _ _) ?_
   rw [Int.natAbs_mul,Int.natAbs_mul,Int.natAbs_natCast,Int.natAbs_natCast]
   exact Nat.le_refl _
 obtain ⟨k1,k2⟩ := qmn (decide (p.num * (q.den : Int) + q.num * (p.den : Int) < 0)) (p.num * (q.den : Int) + q.num * (p.den : Int)).natAbs (p.den * q.den)
 have hpos : 0 < p.den * q.den := Nat.mul_pos p.den_pos q.den_pos
 rw [Nat.max_eq_right hpos] at k2
 generalize 2 ^ (134 * w - 1) * 2 ^ (134 * v - 1) = M at *
 exact ⟨by rw [e]; omega,by rw [e]; omega⟩
theorem BdQ.mul {w v : Nat} {p q : Rat} (hp : BdQ w p) (hq : BdQ v q) (hw : 1 ≤ w) (hv : 1 ≤ v) : BdQ (w + v) (p * q) := by
 rw [← qxy p q]
 have e : 2 ^ (134 * (w + v) - 1) = 2 ^ (134 * w - 1) * 2 ^ (134 * v - 1) * 2 := by
   rw [← Nat.pow_add,← Nat.pow_succ]; congr 1; omega
 have hd : p.den * q.den ≤ 2 ^ (134 * w - 1) * 2 ^ (134 * v - 1) := Nat.mul_le_mul hp.den hq.den
 have h1 : p.num.natAbs * q.num.natAbs ≤ 2 ^ (134 * w - 1) * 2 ^ (134 * v - 1) := Nat.mul_le_mul hp.num hq.num
 obtain ⟨k1,k2⟩ := qmn (decide (p.num < 0) != decide (q.num < 0)) (p.num.natAbs * q.num.natAbs) (p.den * q.den)
 have hpos : 0 < p.den * q.den := Nat.mul_pos p.den_pos q.den_pos
 rw [Nat.max_eq_right hpos] at k2
 generalize 2 ^ (134 * w - 1) * 2 ^ (134 * v - 1) = M at *
 exact ⟨by rw [e]; omega,by rw [e]; omega⟩
theorem BdQ.neg {w : Nat} {q : Rat} (h : BdQ w q) : BdQ w (-q) := ⟨by rw [Rat.neg_num,Int.natAbs_neg]; exact h.num,by rw [Rat.neg_den]; exact h.den⟩
theorem BdQ.sub {w v : Nat} {p q : Rat} (hp : BdQ w p) (hq : BdQ v q) (hw : 1 ≤ w) (hv : 1 ≤ v) : BdQ (w + v) (p - q) := by
 rw [Rat.sub_eq_add_neg]; exact hp.add hq.neg hw hv
theorem BdQ.inv {w : Nat} {q : Rat} (h : BdQ w q) (h0 : q ≠ 0) : BdQ w q⁻¹ := ⟨by rw [qst h0]; exact h.den,by rw [qsu h0]; exact h.num⟩
theorem BdQ.npow {w n : Nat} {q : Rat} (h : BdQ w q) (hw : 1 ≤ w) : BdQ (w * max 1 n) (q ^ n) := by
 have e : (2 ^ (134 * w - 1)) ^ n ≤ 2 ^ (134 * (w * max 1 n) - 1) := by
   rw [← Nat.pow_mul]
   refine Nat.pow_le_pow_right (by decide) ?_
   by_cases hn : n = 0
   · subst hn; exact Nat.zero_le _
   · rw [Nat.max_eq_right (by omega : 1 ≤ n), Nat.sub_mul, ← Nat.mul_assoc]
     have : n ≤ 134 * w * n := Nat.le_mul_of_pos_left _ (by omega)
     omega
 refine ⟨?_,?_⟩
 · rw [Rat.num_pow,Int.natAbs_pow]; exact Nat.le_trans (Nat.pow_le_pow_left h.num _) e
 · rw [Rat.den_pow]; exact Nat.le_trans (Nat.pow_le_pow_left h.den _) e
theorem BdQ.pow {w : Nat} {q : Rat} (e : Int) (h : BdQ w q) (hw : 1 ≤ w) (h0 : ¬ (e < 0 ∧ q = 0)) : BdQ (w * max 1 e.natAbs) (q ^ e) := by
 rw [← q3s]
 refine BdQ.npow ?_ hw
 unfold powX
 split
 · rename_i he; exact h.inv (fun e0 => h0 ⟨he,e0⟩)
 · exact h
theorem BdQ.low {neg : Bool} {n d : Nat} (hn : n ≤ 2 ^ 133) (hd : d ≤ 2 ^ 133) : BdQ 1 (lowQ neg n d) := by
 obtain ⟨k1,k2⟩ := qmn neg n d
 have := q42 133
 exact ⟨Nat.le_trans k1 hn,Nat.le_trans k2 (Nat.max_le.2 ⟨this,hd⟩)⟩
theorem qts {A : List Nat} (h : Wds A) {k : Nat} (hk : A.length ≤ k) (h4 : k ≤ 4) : val A ≤ 2 ^ 133 := by
 have h1 := jj h
 have h2 : 4294967296 ^ A.length ≤ 4294967296 ^ 4 := Nat.pow_le_pow_right (by decide) (by omega)
 have h3 : 4294967296 ^ 4 ≤ 2 ^ 133 := by decide
 omega
theorem NV.bd {I : Hp} {x : NV} (h : x.ok I) (h1 : x.n.length ≤ 4) (h2 : x.d.length ≤ 4) : BdQ 1 x.q := BdQ.low (qts h.1.wds h1 (Nat.le_refl _)) (qts h.2.wds h2 (Nat.le_refl _))
structure BdL (l : List Nat) (qs : List Rat) : Prop where
 len : l.length = qs.length
 bd : ∀ i,i < l.length → BdQ (l.getD i 0) (qs.getD i 0)
 one : ∀ x ∈ l,1 ≤ x ∧ x ≤ 200
theorem BdL.add {l : List Nat} {qs : List Rat} {m : Nat} {q : Rat} (h : BdL l qs) (hq : BdQ m q) (hm : 1 ≤ m ∧ m ≤ 200) : BdL (l ++ [m]) (qs ++ [q]) := by
 refine ⟨by simp [h.len],fun i hi => ?_,fun x hx => ?_⟩
 · simp only [List.length_append, List.length_cons, List.length_nil] at hi
   simp only [List.getD_eq_getElem?_getD]
   by_cases hil : i < l.length
   · rw [List.getElem?_append_left hil, List.getElem?_append_left (by rw [← h.len]; exact hil)]
     have := h.bd i hil
     simpa only [List.getD_eq_getElem?_getD] using this
   · have hi' : i = l.length := by omega
     subst hi'
     rw [List.getElem?_append_right (Nat.le_refl _),List.getElem?_append_right (by rw [h.len]; exact Nat.le_refl _),Nat.sub_self,h.len,Nat.sub_self]
     exact hq
 · rcases List.mem_append.1 hx with hx | hx
   · exact h.one x hx
   · rw [List.mem_singleton.1 hx]; exact hm
theorem qmo {α : Type} {l : List α} {i : Nat} {d : α} (h : i < l.length) : l.getD i d ∈ l := by
 rw [List.getD_eq_getElem?_getD,List.getElem?_eq_getElem h]; exact List.getElem_mem h
theorem BdQ.few {w : Nat} {q : Rat} (h : BdQ w q) (hw : 1 ≤ w) : Few (5 * w) q := by
 have e : 2 ^ (134 * w - 1) < 4294967296 ^ (5 * w) := by
   rw [qcf]; exact Nat.pow_lt_pow_right (by decide) (by omega)
 exact ⟨Nat.lt_of_le_of_lt h.num e,Nat.lt_of_le_of_lt h.den e⟩
theorem BdL.at_ {l : List Nat} {qs : List Rat} (h : BdL l qs) {i : Int} (hi : 0 ≤ i ∧ i < l.length) : BdQ (l.getD i.toNat 0) (zth qs i) ∧ 1 ≤ l.getD i.toNat 0 ∧ l.getD i.toNat 0 ≤ 200 :=
 ⟨h.bd i.toNat (by omega),h.one _ (qmo (by omega))⟩
theorem BdL.few {l : List Nat} {qs : List Rat} (h : BdL l qs) : ∀ q ∈ qs, Few 1000 q := fun q hq => by
 obtain ⟨i,hi,rfl⟩ := List.getElem_of_mem hq
 have hb := h.bd i (by rw [h.len]; exact hi)
 have ho := h.one _ (qmo (d := 0) (by rw [h.len]; exact hi : i < l.length))
 rw [List.getD_eq_getElem?_getD (l := qs),List.getElem?_eq_getElem hi] at hb
 exact (hb.few ho.1).le (by omega)
theorem BdL.start {qs : List Rat} (h : ∀ q ∈ qs, BdQ 1 q) : BdL (List.replicate qs.length 1) qs :=
 ⟨List.length_replicate, fun i hi => by
   rw [List.length_replicate] at hi
   rw [List.getD_eq_getElem?_getD,List.getElem?_replicate,if_pos hi]
   exact h _ (qmo hi),fun x hx => by rw [(List.mem_replicate.1 hx).2]; omega⟩
theorem qmp : ∀ (k n : Nat), n < 10 ^ (k + 1) → (digs n).length ≤ k + 1
 | 0,n,h => by unfold digs; rw [dif_pos (by omega)]; exact Nat.le_refl _
 | k + 1, n, h => by
   unfold digs
   by_cases h1 : n < 10
   · rw [dif_pos h1]; simp
   · rw [dif_neg h1, List.length_cons]
     have := qmp k (n / 10) (by rw [Nat.pow_succ] at h; omega)
     omega
def qdx (q : Rat) : OpC := ⟨1,0,0,0,decide (q.num < 0),natW q.num.natAbs,natW q.den⟩
theorem q43 {q : Rat} (h1 : q.num.natAbs < 10 ^ 40) (h2 : q.den < 10 ^ 40) : yb (decide (q.num < 0)) (natW q.num.natAbs) (natW q.den) = true := by
 unfold yb qbm
 rw [qk,qk,qoz]
 have e1 := qmp 39 _ h1
 have e2 := qmp 39 _ h2
 simp only [decide_true,Bool.and_self,Bool.true_and,decide_eq_true (show (digs q.num.natAbs).length ≤ 40 from e1),decide_eq_true (show (digs q.den).length ≤ 40 from e2)]
theorem q44 {q : Rat} (h1 : q.num.natAbs < 10 ^ 40) (h2 : q.den < 10 ^ 40) : vw (qdx q) = true := by
 unfold vw qdx
 dsimp only
 rw [if_pos rfl,q43 h1 h2]; rfl
theorem q45 (q : Rat) (l : List Nat) : wgt (qdx q) l = some 1 := rfl
def NV.of (q : Rat) (vn vd : Value) : NV := ⟨decide (q.num < 0),natW q.num.natAbs,natW q.den,vn,vd⟩
def qgq (c a b e : Int) : OpV := ⟨⟨c,a,b,e,false,[],[]⟩,.slice none 0 0,.slice none 0 0⟩
theorem qtt (I : Hp) (c a b e : Int) : (qgq c a b e).ok I := ⟨Ws.nil I,Ws.nil I⟩
theorem jp.of {I : Hp} {bo bu : Nat} {t : jw} (os : List OpV) {To Tu : TypeId} (ho : I bo = some (.cells (os.map OpV.cells).flatten.toArray To (0, 0))) (hu : I bu = some (.cells (ics t.outs).flatten.toArray Tu (0, 0))) (ok : ∀ o ∈ os, o.ok I) (eq : os.map OpV.c = t.ops) (hm : os.length ≤ 1000) (hm2 : t.outs.length ≤ 1000) :
   jp I (.slice (some ⟨bo,0,none⟩) os.length os.length) (.slice (some ⟨bu,0,none⟩) t.outs.length t.outs.length) t os := by
 refine ⟨?_,ok,eq,?_⟩
 · have h := Slc.of_box (sz := 7) (c := os.length) ho (fun c hc => by obtain ⟨o, _, rfl⟩ := List.mem_map.1 hc; rfl) (by unfold maxLen; rw [List.length_map]; omega) (by rw [List.length_map]; exact Nat.le_refl _)
   rwa [List.length_map] at h
 · have h := Slc.of_box (sz := 1) (c := t.outs.length) hu (fun c hc => by obtain ⟨o, _, rfl⟩ := List.mem_map.1 hc; rfl) (by unfold maxLen; rw [qb3]; omega) (by rw [qb3]; exact Nat.le_refl _)
   rwa [qb3] at h
theorem PtV.of {I : Hp} {b : Nat} (xs : List NV) {T : TypeId} (hb : I b = some (.cells (xs.map NV.cells).flatten.toArray T (0,0))) (ok : ∀ x ∈ xs,x.ok I) (hm : xs.length ≤ 1000) : PtV I (.slice (some ⟨b,0,none⟩) xs.length xs.length) xs := by
 refine ⟨?_,ok⟩
 have h := Slc.of_box (sz := 3) (c := xs.length) hb (fun c hc => by obtain ⟨o,_,rfl⟩ := List.mem_map.1 hc; rfl) (by unfold maxLen; rw [List.length_map]; omega) (by rw [List.length_map]; exact Nat.le_refl _)
 rwa [List.length_map] at h
theorem RsV.of {I : Hp} {b : Nat} (rs : List RV) {T : TypeId} (hb : I b = some (.cells (rcs rs).flatten.toArray T (0,0))) (ok : ∀ x ∈ rs,x.ok I) (hm : rs.length ≤ 1000) : RsV I (.slice (some ⟨b,0,none⟩) rs.length rs.length) (rs.map RV.q) := by
 refine ⟨rs,?_,ok,rfl⟩
 have h := Slc.of_box (sz := 3) (c := rs.length) hb (q21 rs) (by unfold maxLen; rw [ql5]; omega) (by rw [ql5]; exact Nat.le_refl _)
 rwa [ql5] at h
theorem q46 {q : Rat} (h : BdQ 1 q) : OpC.few 3000 (qdx q) := ⟨qo0 ((h.few (Nat.le_refl _)).num) (by decide),qo0 ((h.few (Nat.le_refl _)).den) (by decide)⟩
theorem qtu (c a b e : Int) : OpC.few 3000 ⟨c,a,b,e,false,[],[]⟩ := ⟨Nat.zero_le _,Nat.zero_le _⟩
theorem q47 {n : Int} {d : Nat} (hn : n.natAbs ≤ 1000000) (hd : d ≤ 1000000) : BdQ 1 (mkRat n d) := by
 rw [← qfw]
 have : (1000000 : Nat) ≤ 2 ^ 133 := by decide
 exact BdQ.low (by omega) (by omega)
theorem RsV.nil (I : Hp) : RsV I (.slice none 0 0) [] := ⟨[],Slc.nil _ _,fun r h => (by cases h),rfl⟩
end Go.Proofs.YtfcmhcaggdakbaaGreatDoor
namespace Go.Tw
open Go
structure qb7 where
 op : Int
 a : Int
 b : Int
 n : Int
def qb7.cells (t : qb7) : List Value := [.int .u8 t.op,.int .u8 t.a,.int .u8 t.b,.int .u8 t.n]
structure qb7.ok (t : qb7) : Prop where
 op : 0 ≤ t.op ∧ t.op ≤ 255
 a : 0 ≤ t.a ∧ t.a ≤ 255
 b : 0 ≤ t.b ∧ t.b ≤ 255
 n : 0 ≤ t.n ∧ t.n ≤ 255
structure TnV (I : Hp) (v : Value) (ts : List qb7) : Prop where
 s : Slc I 4 v (ts.map qb7.cells)
 ok : ∀ t ∈ ts,t.ok
theorem TnV.le {I I' : Hp} {v : Value} {ts : List qb7} (h : TnV I v ts) (hl : I.Le I') : TnV I' v ts := ⟨h.s.le hl,h.ok⟩
theorem TnV.at_ {I : Hp} {v : Value} {ts : List qb7} (h : TnV I v ts) {i : Nat} {t : qb7} (ht : ts[i]? = some t) : ∀ k y, ([.int .u8 t.op, .int .u8 t.a, .int .u8 t.b, .int .u8 t.n] : List Value)[k]? = some y → I.cell? ⟨slcB v, slcO v + i * 4 + k, none⟩ = some y :=
 h.s.cells i _ (by rw [List.getElem?_map,ht]; rfl)
def bcs (l : List Int) : List (List Value) := l.map fun z => [.int .u8 z]
structure ByV (I : Hp) (v : Value) (l : List Int) : Prop where
 s : Slc I 1 v (bcs l)
 ok : ∀ z ∈ l,0 ≤ z ∧ z ≤ 255
theorem ByV.le {I I' : Hp} {v : Value} {l : List Int} (h : ByV I v l) (hl : I.Le I') : ByV I' v l := ⟨h.s.le hl,h.ok⟩
theorem ByV.at_ {I : Hp} {v : Value} {l : List Int} (h : ByV I v l) {i : Nat} {z : Int} (hz : l[i]? = some z) : I.cell? ⟨slcB v, slcO v + i * 1, none⟩ = some (.int .u8 z) :=
 h.s.cells i _ (by unfold bcs; rw [List.getElem?_map,hz]; rfl) 0 _ rfl
structure qb8 where
 n : Int
 d : Int
def qb8.cells (t : qb8) : List Value := [.int .i8 t.n,.int .u8 t.d]
structure qb8.ok (t : qb8) : Prop where
 n : -128 ≤ t.n ∧ t.n ≤ 127
 d : 0 ≤ t.d ∧ t.d ≤ 255
structure SmV (I : Hp) (v : Value) (ts : List qb8) : Prop where
 s : Slc I 2 v (ts.map qb8.cells)
 ok : ∀ t ∈ ts,t.ok
theorem SmV.le {I I' : Hp} {v : Value} {ts : List qb8} (h : SmV I v ts) (hl : I.Le I') : SmV I' v ts := ⟨h.s.le hl,h.ok⟩
theorem SmV.at_ {I : Hp} {v : Value} {ts : List qb8} (h : SmV I v ts) {i : Nat} {t : qb8} (ht : ts[i]? = some t) : ∀ k y, ([.int .i8 t.n, .int .u8 t.d] : List Value)[k]? = some y → I.cell? ⟨slcB v, slcO v + i * 2 + k, none⟩ = some y :=
 h.s.cells i _ (by rw [List.getElem?_map,ht]; rfl)
end Go.Tw
namespace Go.Proofs.YtfcmhcaggdakbaaGreatDoor
open Go Go.Tw
structure qgr (l : List Nat) : Prop where
 some_ : 0 < l.length
 all : ∀ x ∈ l,1 ≤ x ∧ x ≤ 12
theorem qgr.more {l : List Nat} {m : Nat} (h : qgr l) (hm : 1 ≤ m ∧ m ≤ 12) : qgr (l ++ [m]) := ⟨by simp, fun x hx => by
 rcases List.mem_append.1 hx with hx | hx
 · exact h.all x hx
 · rw [List.mem_singleton.1 hx]; exact hm⟩
theorem qgr.le {l : List Nat} (h : qgr l) : ∀ x ∈ l,x ≤ 200 := fun x hx => by have := h.all x hx; omega
def ocs (os : List OpV) : List (List Value) := os.map OpV.cells
theorem qtv (os : List OpV) : (ocs os).length = os.length := by simp [ocs]
theorem qtw (os : List OpV) : ∀ c ∈ ocs os,c.length = 7 := by
 intro c hc
 obtain ⟨r,_,rfl⟩ := List.mem_map.1 hc
 rfl
theorem qtx (os : List OpV) (o : OpV) : (ocs os).flatten ++ ([.int .i64 o.c.code,.int .i64 o.c.a,.int .i64 o.c.b,.int .i64 o.c.e,.bool o.c.neg,o.vn,o.vd] ++ []) = (ocs (os ++ [o])).flatten := by
 unfold ocs; rw [List.map_append,List.flatten_append]; rfl
theorem qty {I : Hp} {a b c d : Int} {s : Bool} {u1 u2 : Value} {X Y : List Nat} (h1 : Ws I u1 X) (h2 : Ws I u2 Y) : zb ([.int .i64 a,.int .i64 b,.int .i64 c,.int .i64 d,.bool s,u1,u2] ++ []) = true := by
 have e1 := h1.cells1.2
 have e2 := h2.cells1.2
 show (true && (true && (true && (true && (true && (u1.oneCell' && (u2.oneCell' && true))))))) = true
 rw [e1,e2]; rfl
theorem qtz (l : List Int) : (ics l).flatten = l.map fun z => Value.int .i64 z := by
 induction l with
 | nil => rfl
 | cons x l ih => show [_] ++ (ics l).flatten = _; rw [ih]; rfl
theorem qfe (l : List Int) (z : Int) : (ics l).flatten ++ [.int .i64 z] = (ics (l ++ [z])).flatten := by rw [qtz,qtz]; simp
theorem qt0 (l : List Int) : ∀ c ∈ ics l,c.length = 1 := by
 intro c hc
 obtain ⟨r,_,rfl⟩ := List.mem_map.1 hc
 rfl
def arI (b : Nat) (l : List Int) : Tw.Item := .box b (.cells (ivs l).toArray 3 (0,0))
theorem q48 (vi vl vo va : Value) (p : qv) (ns : List qd) (s : ByteArray) (pl : List Int) {I : Hp} (b1 b8 b32 n : Nat) {T1 T8 : TypeId} {z1 z8 : Nat × Nat} (hp : yi I vi vl vo va p ns) (hf : ∀ o ∈ ns, o.c.few 2000000)
   (hB1 : I b1 = some (.cells #[vi,vl,vo,va] T1 z1)) (hB8 : I b8 = some (.cells #[.slice (some ⟨b32,0,none⟩) n n] T8 z8)) (hn : pl.length = n) (hn2 : n = p.all.length) (ho : qmi p) :
   Fun prog 64 [.string s,.pointer (some ⟨b1,0,none⟩),.pointer (some ⟨b8,0,none⟩)] I [arI b32 pl] (fun v I' B' => I = I' ∧ v = .int .i64 (plcZ p pl s) ∧ B' = [arI b32 pl]) := by
 have hsi := hp.si
 have hsl := hp.sl
 have hso := hp.so
 have hsa := hp.sa
 have hll : (p.lets.map LetC.cells).length = p.lets.length := List.length_map _
 unfold arI
 intro w hw
 refine j5 _ func64 rfl ntmps64 rfl ?_ hw;refine sR ?_;refine oV ?_;refine nS ?_;refine jz trivial rfl isAgg26 sizeOf26 rfl rfl ((fun k y h => by unfold Hp.cell?; rw [hB1]; show (#[vi,vl,vo,va] : Array Value)[0 + k]? = some y; rw [Nat.zero_add]; simpa using h)) ?_;refine oV ?_;refine oQ call19 rfl (q4j vi vl vo va p ns s hp hf) ?_;iterate 7 refine oV ?_
 refine nU ?_;refine oV ?_;refine nT ?_;refine cC rfl (fun h1 => ?_) (fun h1 => ?_)
 ·
  have f1 := h1;try simp only [bl] at f1
  obtain ⟨k1,c,hc,k2,k3⟩ := ho.place s h1
  have hcl := (List.getElem?_eq_some_iff.1 hc).1
  have hpz : plcZ p pl s = pl.getD c.root.toNat 0 := by
    unfold plcZ
    rw [if_pos h1,List.getD_eq_getElem?_getD (l := p.lets),hc]; rfl
  refine cS ?_;refine jf (by kernel_rfl) (by kernel_rfl) (fun _ h => h.drawn) ?_;refine q7 trivial rfl isAgg52 rfl (by unfold Hp.cell?; rw [hB8]; rfl) ?_;refine oF 1 underlying26 sizeOf23 ?_;refine q7 trivial rfl isAgg23 rfl (by unfold Hp.cell?; rw [hB1]; rfl) ?_;refine oV ?_;refine vk trivial rfl underlying23 sizeOf39 rfl (hsl) rfl (by omega) ?_;refine oF 1 underlying39 sizeOf3 ?_;refine q7 trivial rfl isAgg3 rfl (qcw hsl hc 1 _ rfl) ?_;refine y8 trivial rfl underlying52 sizeOf3 rfl rfl (by omega) ?_;refine qcd trivial rfl isAgg3 rfl (by repeat constructor) ((by rw [show 0 + c.root.toNat * 1 = c.root.toNat by omega]; exact qfd (by omega))) ?_;refine oV ?_;refine nF ?_;refine ret1 rfl rfl ?_;exact fun w' hw' => ⟨I,[.box b32 (.cells (ivs pl).toArray 3 (0,0))],hw'.sort (by repeat constructor),Ext.refl _ _,rfl,by rw [hpz],rfl⟩
 have f1 := h1;try simp only [bl] at f1
 have hpz : plcZ p pl s = (yr p s).2.1 := by unfold plcZ; rw [h1]; rfl
 refine kS ?_;iterate 2 refine oV ?_
 refine nE ?_;refine ret1 rfl rfl ?_;exact fun w' hw' => ⟨I,[.box b32 (.cells (ivs pl).toArray 3 (0,0))],hw'.sort (by repeat constructor),Ext.refl _ _,rfl,by rw [hpz]; rfl,rfl⟩
theorem qt1 (vi vl vo va : Value) (p : qv) (ns : List qd) {I : Hp} (hp : yi I vi vl vo va p ns) (hf : ∀ o ∈ ns, o.c.few 3000) :
   Fun prog 30 [.agg #[vi,vl,vo,va]] I [] (fun v I' _ => LowV (lowZ p) v I') := by
 have hsi := hp.si
 have hsl := hp.sl
 have hso := hp.so
 have hsa := hp.sa
 have hla := zl ns
 have hlo := jq p.outs
 have hli := jq p.ins
 have hal : p.all.length = ns.length := by rw [← hp.eq,List.length_map]
 have hf2 : ∀ o ∈ ns,o.c.few 2000000 := fun o ho => ⟨Nat.le_trans (hf o ho).1 (by decide),Nat.le_trans (hf o ho).2 (by decide)⟩
 intro w hw
 refine qn _ func30 rfl ntmps30 rfl ?_ hw;refine sR ?_;refine vh trivial rfl rfl rfl (fun b1 => ?_);refine qq trivial rfl zeroValue56 rfl (fun b2 => ?_);iterate 2 refine oV ?_
 refine nU ?_;refine oA isAgg26 sizeOf26 ?_;refine oQ call17 rfl (q4i vi vl vo va p ns hp hf2) ?_;iterate 5 refine oV ?_
 refine nS ?_;iterate 2 refine oV ?_
 refine nT ?_;refine cC rfl (fun h1 => ?_) (fun h1 => ?_)
 ·
  have f1 := h1;try simp only [bl] at f1
  have hz : lowZ p = ⟨noT,(vv p).name,(vv p).err⟩ := if_pos f1
  refine sR ?_;refine qw trivial rfl (qdb) rfl .nil ?_;iterate 2 refine oV ?_
  refine oS sizeOf56 ?_;iterate 2 refine oV ?_
  refine nF ?_;refine retR rfl (.agg isAgg56 sizeOf56 rfl (by repeat constructor) rfl (.tmp rfl (.tmp rfl .nil))) ?_;refine leaf (Ext.refl _ _) (List.nil_sublist _) ?_
  rw [hz]
  exact ⟨N0,N0,[],rfl,⟨Slc.nil _ _,fun o ho => (by cases ho),rfl,Slc.nil _ _⟩,fun o ho => by cases ho⟩
 have f1 := h1;try simp only [bl] at f1
 have hz : lowZ p = if (v7 (lowT p)).isSome = true then ⟨lowT p,⟨#[]⟩,0⟩ else ⟨noT,⟨#[]⟩,4⟩ := if_neg (fun h => h f1)
 have hin := qtm f1
 obtain ⟨q1,q2,q3⟩ := hin.few
 refine kS ?_;refine oF 0 underlying26 sizeOf22 ?_;refine oL isAgg22 ?_;refine qu trivial rfl underlying22 rfl (hsi) ?_;refine qw trivial rfl (qdb) rfl (.cons rfl rfl rfl (by repeat constructor) .nil) ?_;refine qq trivial rfl zeroValue56 rfl (fun b7 => ?_);refine oS sizeOf56 ?_;refine nS ?_;refine oF 3 underlying26 sizeOf24 ?_;refine oL isAgg24 ?_;refine qu trivial rfl underlying24 rfl (hsa) ?_;refine qce trivial rfl underlying52 qom rfl rfl (by omega) (by omega) (by (unfold maxLen; omega)) (fun b32 => ?_);refine qq trivial rfl zeroValue52 rfl (fun b8 => ?_);refine oS sizeOf52 ?_;refine oN (tC (cS ?_))
 rw [Int.toNat_natCast,qto,hla,hli]
 refine qjh (b := b1) (by repeat constructor) (fun I1 hx1 hB1 => ?_);refine qjh (b := b8) (by repeat constructor) (fun I2 hx2 hB8 => ?_)
 have hxl := hx1.le.trans hx2.le
 have hB1' := hx2.le _ _ hB1
 have hp2 := hp.le hxl
 have hsa2 := hsa.le hxl
 have hso2 := hso.le hxl
 have hplace : ∀ (s : ByteArray) (pl : List Int), pl.length = ns.length → Fun prog 64 [.string s, .pointer (some ⟨b1, 0, none⟩), .pointer (some ⟨b8, 0, none⟩)] I2 [arI b32 pl] (fun v I' B' => I2 = I' ∧ v = .int .i64 (plcZ p pl s) ∧ B' = [arI b32 pl]) :=
   fun s pl hpl => q48 vi vl vo va p ns s pl b1 b8 b32 ns.length hp2 hf2 hB1' hB8 hpl hal.symm hin
 unfold arI at hplace
 refine cR ?_;iterate 2 refine oV ?_
 refine nU ?_;refine oF 3 underlying26 sizeOf24 ?_;refine q7 trivial rfl isAgg24 rfl (by unfold Hp.cell?; rw [hB1']; rfl) ?_;refine qu trivial rfl underlying24 rfl (hsa2) ?_;refine oV ?_;refine oN (tC (cB ?_));refine qt (ι := Nat × List Int × List OpV × Value) [1,2,7,8,9,35,36] (.cons rfl (.cons rfl (.cons rfl (.cons rfl (.cons rfl (.cons rfl (.cons rfl .nil))))))) (fun x => ns.length - x.1) (fun x E0 => (37,.int .i64 (x.1 : Nat)) :: E0) (fun x => St w [] I2 [.row x.2.2.2 69 7 x.2.2.1.length (ocs x.2.2.1).flatten,arI b32 x.2.1,.box b7 (.cells #[.int .i64 (p.ins.length : Nat),x.2.2.2,.slice none 0 0] 56 (0,0)),.box b2 (.cells #[.int .i64 0,.slice none 0 0,.slice none 0 0] 56 (0,0))]) (fun x => x.1 ≤ ns.length ∧ x.2.1.length = ns.length ∧ x.2.2.1.length ≤ x.1 ∧ (∀ o ∈ x.2.2.1,o.ok I2 ∧ OpC.few 3000 o.c) ∧ qbs p = j4 p (p.all.drop x.1) x.1 x.2.1 (x.2.2.1.map OpV.c)) ((0,List.replicate ns.length 0,[],.slice none 0 0)) (sC rfl (sC rfl (sC rfl (sC rfl (sC rfl (sC rfl (sC rfl (sC rfl sN)))))))) (fun _ h => (h.nilRow 69 7).sort (by repeat constructor)) (⟨Nat.zero_le _,List.length_replicate,Nat.le_refl _,fun o ho => (by cases ho),by show qbs p = j4 p p.all 0 (List.replicate ns.length 0) []; rw [← hal]; rfl⟩) ?_;rintro ⟨i,pl,os,u⟩ ⟨hi,hpl,hol,hok,hgo⟩
 try dsimp only
 simp only at hi hpl hol hok hgo; have hpll := qtn pl; unfold arI
 refine sR ?_;refine oV ?_;refine oN (tC (cS ?_));refine cC rfl (fun h2 => ?_) (fun h2 => ?_)
 ·
  have f2 := h2;try simp only [bl] at f2
  obtain ⟨o,ho⟩ : ∃ o,ns[i]? = some o := ⟨ns[i]'(by omega),List.getElem?_eq_getElem (by omega)⟩
  have hom := List.mem_of_getElem? ho
  have hoc : p.all[i]? = some o.c := by rw [← hp.eq,List.getElem?_map,ho]; rfl
  have hw1 : Ws I2 o.vn o.c.n := ((hp.ok o hom).le hxl).1
  have hw2 : Ws I2 o.vd o.c.d := ((hp.ok o hom).le hxl).2
  rw [qtl hoc] at hgo
  have hknd := hin.kind o.c (List.mem_of_getElem? hoc)
  have hlow := hin.low i o.c hoc
  refine cK (tC (cS (cB (sR ?_))));refine oV ?_;refine vk trivial rfl underlying24 sizeOf37 rfl (hsa2) rfl (by omega) ?_;refine jz trivial rfl isAgg37 sizeOf37 rfl rfl (qav hsa2 ho) ?_;refine qq trivial rfl zeroValue37 rfl (fun b11 => ?_);refine oV ?_;refine oS sizeOf37 ?_;refine nU ?_;refine oF 0 underlying37 sizeOf3 ?_;refine oL isAgg3 ?_;refine oV ?_;refine nT ?_;refine cC rfl (fun h3 => ?_) (fun h3 => ?_)
  ·
   have f3 := h3;try simp only [bl] at f3
   rw [if_pos f3] at hgo
   refine cS ?_;refine zu (m := 8) [.box b11 _] (by repeat constructor) (by kernel_rfl) rfl ?_;refine qT (i := 0) (qB 8 1) (Hp.Le.refl _) rfl rfl (q7 trivial rfl isAgg52 rfl (by unfold Hp.cell?; rw [hB8]; rfl) qF) ?_;refine qT (i := 1) (qB 8 3) (Hp.Le.refl _) rfl rfl (oV qF) ?_;refine qT (i := 2) (qB 8 7) (Hp.Le.refl _) rfl rfl (oV qF) ?_;refine qT (i := 3) (qB 8 15) (Hp.Le.refl _) rfl rfl (oF 4 underlying37 sizeOf9 qF) ?_;refine qT (i := 4) (qB 8 31) (Hp.Le.refl _) rfl rfl (oL isAgg9 qF) ?_;refine qO (i := 5) (qB 8 63) rfl ?_;refine qd1 trivial rfl rfl call64 rfl rfl (hplace o.c.name pl hpl) (by repeat constructor) ?_;rintro _ _ _ hxq ⟨rfl,rfl,rfl⟩;refine qM (hxq.le) ?_;refine qT (i := 6) (qB 8 127) (hxq.le) rfl rfl (y8 trivial rfl underlying52 sizeOf3 rfl rfl (by omega) qF) ?_;refine qO (i := 7) (qB 8 255) rfl ?_;refine yn trivial rfl rfl rfl sizeOf3 rfl (by repeat constructor) (by rw [hpll]; omega) ?_
   rw [show 0 + ((i : Nat) : Int).toNat * 1 = i by omega,qim]
   refine qM (hxq.le) ?_;refine jc (by kernel_rfl) ?_;refine tC (qp (qc (qo rfl (tC (cR ?_)))))
   (refine qh trivial rfl rfl rfl ?_ ?_; (omega))
   refine oV ?_;refine oN ?_
   (exact ql (i + 1,pl.set i (plcZ p pl o.c.name),os,u) (sC rfl (sC rfl (sC rfl (sC rfl (sC rfl (sC rfl (sC rfl (sC rfl sN)))))))) (fun _ h => h.sort (by repeat constructor)) (by show ns.length - (i + 1) < ns.length - i; omega) ⟨by show i + 1 ≤ _; omega,by rw [List.length_set]; exact hpl,by show os.length ≤ i + 1; omega,hok,hgo⟩)
  have f3 := h3;try simp only [bl] at f3
  rw [if_neg f3,List.length_map] at hgo
  refine kS ?_;refine q7 trivial rfl isAgg52 rfl (by unfold Hp.cell?; rw [hB8]; rfl) ?_;refine oV ?_;refine oF 0 underlying56 sizeOf3 ?_;refine oL isAgg3 ?_;refine oF 1 underlying56 sizeOf54 ?_;refine oL isAgg54 ?_;refine yw trivial rfl underlying54 rfl (by repeat constructor) ?_
  (refine qh trivial rfl rfl rfl ?_ ?_; (omega))
  refine y8 trivial rfl underlying52 sizeOf3 rfl rfl (by omega) ?_;refine yn trivial rfl rfl rfl sizeOf3 rfl (by repeat constructor) (by rw [hpll]; omega) ?_
  rw [show 0 + ((i : Nat) : Int).toNat * 1 = i by omega,qim]
  refine oN (tC (cS ?_))
  obtain ⟨pl2,hpl2⟩ : ∃ pl2,pl2 = pl.set i ((p.ins.length : Int) + os.length) := ⟨_,rfl⟩
  have hpl2l : pl2.length = ns.length := by rw [hpl2,List.length_set]; exact hpl
  rw [← hpl2]
  rw [← hpl2] at hgo
  refine cR ?_;refine oF 0 underlying37 sizeOf3 ?_;refine oL isAgg3 ?_;refine oF 3 underlying37 sizeOf3 ?_;refine oL isAgg3 ?_;refine oF 5 underlying37 sizeOf35 ?_;refine oA isAgg35 sizeOf35 ?_;refine qw trivial rfl (qg9) rfl (.cons rfl rfl rfl (by repeat constructor) (.cons rfl rfl rfl (by repeat constructor) (.cons rfl rfl rfl (by repeat constructor) .nil))) ?_;refine qq trivial rfl zeroValue69 rfl (fun b12 => ?_);refine oS sizeOf69 ?_;refine nT ?_;refine zh (ι := Int) [1,2,7,8,9,11,12,35,36,37] (.cons rfl (.cons rfl (.cons rfl (.cons rfl (.cons rfl (.cons rfl (.cons rfl (.cons rfl (.cons rfl (.cons rfl .nil)))))))))) (fun z E0 => E0) (fun z => St w [] I2 [.box b12 (.cells [.int .i64 o.c.kind,.int .i64 z,.int .i64 0,.int .i64 o.c.e,.bool o.c.neg,o.vn,o.vd].toArray 69 (0,0)),.box b11 (.cells o.cells.toArray 37 (0,0)),.row u 69 7 os.length (ocs os).flatten,.box b32 (.cells (ivs pl2).toArray 3 (0,0)),.box b7 (.cells #[.int .i64 (p.ins.length : Nat),u,.slice none 0 0] 56 (0,0)),.box b2 (.cells #[.int .i64 0,.slice none 0 0,.slice none 0 0] 56 (0,0))]) (fun z => z = if 2 ≤ o.c.kind then pl2.getD o.c.a.toNat 0 else 0) ?_ ?_
  ·
   refine sR ?_;refine oF 0 underlying37 sizeOf3 ?_;refine oL isAgg3 ?_;refine oV ?_;refine nT ?_;refine cC rfl (fun h4 => ?_) (fun h4 => ?_)
   ·
    have f4 := h4;try simp only [bl] at f4
    obtain ⟨a1,a2,_⟩ := hlow (by omega)
    refine cR ?_;refine q7 trivial rfl isAgg52 rfl (by unfold Hp.cell?; rw [hB8]; rfl) ?_;refine oF 1 underlying37 sizeOf3 ?_;refine oL isAgg3 ?_;refine y8 trivial rfl underlying52 sizeOf3 rfl rfl (by omega) ?_;refine qcd trivial rfl isAgg3 rfl (by repeat constructor) ((by rw [show 0 + o.c.a.toNat * 1 = o.c.a.toNat by omega]; exact qfd (by omega))) ?_;refine oF 1 underlying69 sizeOf3 ?_;refine oS sizeOf3 ?_;refine oN ?_
    (exact meet (pl2.getD o.c.a.toNat 0) (sC rfl (sC rfl (sC rfl (sC rfl (sC rfl (sC rfl (sC rfl (sC rfl (sC rfl (sC rfl sN)))))))))) (fun _ h => h.sort (by repeat constructor)) (by show _ = if 2 ≤ o.c.kind then _ else _; rw [if_pos (by omega)]))
   have f4 := h4;try simp only [bl] at f4
   refine cK ?_
   (exact meet 0 (sC rfl (sC rfl (sC rfl (sC rfl (sC rfl (sC rfl (sC rfl (sC rfl (sC rfl (sC rfl sN)))))))))) (fun _ h => h.sort (by repeat constructor)) (by show _ = if 2 ≤ o.c.kind then _ else _; rw [if_neg (by omega)]))
  rintro zA hzA
  try dsimp only
  refine zh (ι := Int) [1,2,7,8,9,12,35,36,37] (.cons rfl (.cons rfl (.cons rfl (.cons rfl (.cons rfl (.cons rfl (.cons rfl (.cons rfl (.cons rfl .nil))))))))) (fun z E0 => E0) (fun z => St w [] I2 [.box b12 (.cells [.int .i64 o.c.kind,.int .i64 zA,.int .i64 z,.int .i64 o.c.e,.bool o.c.neg,o.vn,o.vd].toArray 69 (0,0)),.row u 69 7 os.length (ocs os).flatten,.box b32 (.cells (ivs pl2).toArray 3 (0,0)),.box b7 (.cells #[.int .i64 (p.ins.length : Nat),u,.slice none 0 0] 56 (0,0)),.box b2 (.cells #[.int .i64 0,.slice none 0 0,.slice none 0 0] 56 (0,0))]) (fun z => z = if 2 ≤ o.c.kind ∧ o.c.kind ≤ 5 then pl2.getD o.c.b.toNat 0 else 0) ?_ ?_
  ·
   refine sR ?_;refine oF 0 underlying37 sizeOf3 ?_;refine oL isAgg3 ?_;refine oV ?_;refine' oY (fun hb80 => ?_) ?_;rotate_left
   ·
    have fb80 := hb80
    try simp only [bl] at fb80
    refine gF hb80 0 underlying37 sizeOf3 ?_;refine gL hb80 isAgg3 ?_;refine gV hb80 ?_;refine oN ?_;exact qa rfl
   refine nT ?_;refine cC rfl (fun h5 => ?_) (fun h5 => ?_)
   ·
    have f5 := h5;try simp only [bl] at f5
    obtain ⟨a1,a2,a3⟩ := hlow (by omega)
    obtain ⟨a4,a5⟩ := a3 (by omega)
    refine cR ?_;refine q7 trivial rfl isAgg52 rfl (by unfold Hp.cell?; rw [hB8]; rfl) ?_;refine oF 2 underlying37 sizeOf3 ?_;refine oL isAgg3 ?_;refine y8 trivial rfl underlying52 sizeOf3 rfl rfl (by omega) ?_;refine qcd trivial rfl isAgg3 rfl (by repeat constructor) ((by rw [show 0 + o.c.b.toNat * 1 = o.c.b.toNat by omega]; exact qfd (by omega))) ?_;refine oF 2 underlying69 sizeOf3 ?_;refine oS sizeOf3 ?_;refine oN ?_
    (exact meet (pl2.getD o.c.b.toNat 0) (sC rfl (sC rfl (sC rfl (sC rfl (sC rfl (sC rfl (sC rfl (sC rfl (sC rfl sN))))))))) (fun _ h => h.sort (by repeat constructor)) (by show _ = if 2 ≤ o.c.kind ∧ o.c.kind ≤ 5 then _ else _; rw [if_pos (by omega)]))
   have f5 := h5;try simp only [bl] at f5
   refine cK ?_
   (exact meet 0 (sC rfl (sC rfl (sC rfl (sC rfl (sC rfl (sC rfl (sC rfl (sC rfl (sC rfl sN))))))))) (fun _ h => h.sort (by repeat constructor)) (by show _ = if 2 ≤ o.c.kind ∧ o.c.kind ≤ 5 then _ else _; rw [if_neg (by omega)]))
  rintro zB hzB
  try dsimp only
  subst hzA hzB hpl2
  refine cR ?_;refine oF 1 underlying56 sizeOf54 ?_;refine oL isAgg54 ?_;refine oA isAgg69 sizeOf69 ?_;refine oB underlying54 sizeOf69 zeroValue69 fun b94 => ?_;refine qfm trivial rfl underlying54 (qol) (by decide) rfl rfl (fun v' => (by repeat constructor)) (by repeat constructor) rfl (by exact qty hw1 hw2) (by (unfold maxLen; omega)) (by omega) (fun v95 => ?_);refine oF 1 underlying56 sizeOf54 ?_;refine j6 (u := v95) (by repeat constructor) (fun hcv => ?_);refine yn trivial rfl rfl (hcv).1 sizeOf54 (hcv).2 (by repeat constructor) (by exact Nat.le_of_ble_eq_true rfl) ?_;refine oN (qg (tC (cR ?_)))
  (refine qh trivial rfl rfl rfl ?_ ?_; (omega))
  refine oV ?_;refine oN ?_
  (exact ql (i + 1, pl.set i ((p.ins.length : Int) + os.length), os ++ [⟨opL o.c (pl.set i ((p.ins.length : Int) + os.length)), o.vn, o.vd⟩], v95) (sC rfl (sC rfl (sC rfl (sC rfl (sC rfl (sC rfl (sC rfl (sC rfl sN)))))))) (fun _ h => by rw [← qtx, List.length_append]; exact h.sort (by repeat constructor)) (by show ns.length - (i + 1) < ns.length - i; omega) ⟨by show i + 1 ≤ _; omega, by rw [List.length_set]; exact hpl, by simp only [List.length_append, List.length_cons, List.length_nil]; omega, fun x hx => by
     rcases List.mem_append.1 hx with hx | hx
     · exact hok x hx
     · rw [List.mem_singleton.1 hx]; exact ⟨⟨hw1,hw2⟩,hf o hom⟩,by rw [List.map_append]; exact hgo⟩)
 have f2 := h2;try simp only [bl] at f2
 have hgo2 : qbs p = (pl,os.map OpV.c) := by
   rw [hgo,List.drop_of_length_le (by omega)]; rfl
 have hlt : lowT p = ⟨p.ins.length,os.map OpV.c,p.outs.map (plcZ p pl)⟩ := by unfold lowT; rw [hgo2]
 have hosl : os.length ≤ 400 := by omega
 refine qp (qc (qc (qo rfl (tC (cS (sR ?_))))));refine oF 2 underlying26 sizeOf22 ?_;refine q7 trivial rfl isAgg22 rfl (by unfold Hp.cell?; rw [hB1']; rfl) ?_;refine qu trivial rfl underlying22 rfl (hso2) ?_;refine oV ?_;refine oN (tC (cB ?_));refine qt (ι := Nat × Value) [2,7,9,99,100] (.cons rfl (.cons rfl (.cons rfl (.cons rfl (.cons rfl .nil))))) (fun x => p.outs.length - x.1) (fun x E0 => (101,.int .i64 (x.1 : Nat)) :: E0) (fun x => St w [] I2 [.row x.2 3 1 x.1 (ics ((p.outs.take x.1).map (plcZ p pl))).flatten,.row u 69 7 os.length (ocs os).flatten,.box b32 (.cells (ivs pl).toArray 3 (0,0)),.box b7 (.cells #[.int .i64 (p.ins.length : Nat),u,x.2] 56 (0,0)),.box b2 (.cells #[.int .i64 0,.slice none 0 0,.slice none 0 0] 56 (0,0))]) (fun x => x.1 ≤ p.outs.length) ((0,.slice none 0 0)) (sC rfl (sC rfl (sC rfl (sC rfl (sC rfl (sC rfl sN)))))) (fun _ h => (h.nilRow 3 1).sort (by repeat constructor)) (Nat.zero_le _) ?_;rintro ⟨j,uu⟩ hj
 try dsimp only
 simp only at hj
 refine sR ?_;refine oV ?_;refine oN (tC (cS ?_));refine cC rfl (fun h6 => ?_) (fun h6 => ?_)
 ·
  have f6 := h6;try simp only [bl] at f6
  obtain ⟨s,hs⟩ : ∃ s,p.outs[j]? = some s := ⟨p.outs[j]'(by omega),List.getElem?_eq_getElem (by omega)⟩
  refine cK (tC (cS (cB (sR ?_))));refine vk trivial rfl underlying22 sizeOf9 rfl (hso2) rfl (by omega) ?_;refine q7 trivial rfl isAgg9 rfl (qau hso2 hs) ?_;refine oV ?_;refine nT ?_;refine zu (m := 9) [] (by repeat constructor) (by kernel_rfl) rfl ?_;refine qT (i := 0) (qB 9 1) (Hp.Le.refl _) rfl rfl (oF 2 underlying56 sizeOf52 qF) ?_;refine qT (i := 2) (qB 9 5) (Hp.Le.refl _) rfl rfl (oV qF) ?_;refine qT (i := 3) (qB 9 13) (Hp.Le.refl _) rfl rfl (oV qF) ?_;refine h_go [1,4] (by kernel_rfl) rfl (TWHs.cons ?_ (TWHs.cons ?_ TWHs.nil))
  ·
   refine qP (qB 9 15) rfl ?_;refine oL isAgg52 ?_;refine qM (Hp.Le.refl _) ?_;refine qO (i := 4) (qB 9 31) rfl ?_;refine qd1 trivial rfl rfl call64 rfl rfl (hplace s pl hpl) (by repeat constructor) ?_;rintro _ _ _ hxq ⟨rfl,rfl,rfl⟩;refine qM (hxq.le) ?_;refine qO (i := 5) (qB 9 63) rfl ?_;refine oB underlying52 sizeOf3 zeroValue3 fun b110 => ?_;refine qM (hxq.le) ?_;refine qO (i := 6) (qB 9 127) rfl ?_;refine oD underlying52 zd fun v111 => ?_;refine qM (hxq.le) ?_;refine qT (i := 7) (qB 9 255) (hxq.le) rfl rfl (oF 2 underlying56 sizeOf52 qF) ?_;refine qO (i := 8) (qB 9 511) rfl ?_;refine j6 (u := v111) (by repeat constructor) (fun hcv => ?_);refine yn trivial rfl rfl (hcv).1 sizeOf52 (hcv).2 (by repeat constructor) (by exact Nat.le_of_ble_eq_true rfl) ?_;refine qM (hxq.le) ?_;refine jc (by kernel_rfl) ?_;refine qg (tC (cR ?_))
   (refine qh trivial rfl rfl rfl ?_ ?_; (omega))
   refine oV ?_;refine oN ?_;exact ql (j + 1,v111) (sC rfl (sC rfl (sC rfl (sC rfl (sC rfl (sC rfl sN)))))) (fun _ h => by rw [List.take_add_one,hs,Option.toList_some,List.map_append,List.map_cons,List.map_nil,← qfe]; exact h.sort (by repeat constructor)) (by show p.outs.length - (j + 1) < p.outs.length - j; omega) (by show j + 1 ≤ _; omega)
  refine qP (qB 9 29) rfl ?_;refine qd1 trivial rfl rfl call64 rfl rfl (hplace s pl hpl) (by repeat constructor) ?_;rintro _ _ _ hxq ⟨rfl,rfl,rfl⟩;refine qM (hxq.le) ?_;refine h_go [1,5] (by kernel_rfl) rfl (TWHs.cons ?_ (TWHs.cons ?_ TWHs.nil))
  ·
   refine qP (qB 9 31) rfl ?_;refine oL isAgg52 ?_;refine qM (hxq.le) ?_;refine qO (i := 5) (qB 9 63) rfl ?_;refine oB underlying52 sizeOf3 zeroValue3 fun b110 => ?_;refine qM (hxq.le) ?_;refine qO (i := 6) (qB 9 127) rfl ?_;refine oD underlying52 zd fun v111 => ?_;refine qM (hxq.le) ?_;refine qT (i := 7) (qB 9 255) (hxq.le) rfl rfl (oF 2 underlying56 sizeOf52 qF) ?_;refine qO (i := 8) (qB 9 511) rfl ?_;refine j6 (u := v111) (by repeat constructor) (fun hcv => ?_);refine yn trivial rfl rfl (hcv).1 sizeOf52 (hcv).2 (by repeat constructor) (by exact Nat.le_of_ble_eq_true rfl) ?_;refine qM (hxq.le) ?_;refine jc (by kernel_rfl) ?_;refine qg (tC (cR ?_))
   (refine qh trivial rfl rfl rfl ?_ ?_; (omega))
   refine oV ?_;refine oN ?_;exact ql (j + 1,v111) (sC rfl (sC rfl (sC rfl (sC rfl (sC rfl (sC rfl sN)))))) (fun _ h => by rw [List.take_add_one,hs,Option.toList_some,List.map_append,List.map_cons,List.map_nil,← qfe]; exact h.sort (by repeat constructor)) (by show p.outs.length - (j + 1) < p.outs.length - j; omega) (by show j + 1 ≤ _; omega)
  refine qP (qB 9 61) rfl ?_;refine oB underlying52 sizeOf3 zeroValue3 fun b110 => ?_;refine qM (hxq.le) ?_;refine qO (i := 1) (qB 9 63) rfl ?_;refine oL isAgg52 ?_;refine qM (hxq.le) ?_;refine qO (i := 6) (qB 9 127) rfl ?_;refine oD underlying52 zd fun v111 => ?_;refine qM (hxq.le) ?_;refine qT (i := 7) (qB 9 255) (hxq.le) rfl rfl (oF 2 underlying56 sizeOf52 qF) ?_;refine qO (i := 8) (qB 9 511) rfl ?_;refine j6 (u := v111) (by repeat constructor) (fun hcv => ?_);refine yn trivial rfl rfl (hcv).1 sizeOf52 (hcv).2 (by repeat constructor) (by exact Nat.le_of_ble_eq_true rfl) ?_;refine qM (hxq.le) ?_;refine jc (by kernel_rfl) ?_;refine qg (tC (cR ?_))
  (refine qh trivial rfl rfl rfl ?_ ?_; (omega))
  refine oV ?_;refine oN ?_;exact ql (j + 1,v111) (sC rfl (sC rfl (sC rfl (sC rfl (sC rfl (sC rfl sN)))))) (fun _ h => by rw [List.take_add_one,hs,Option.toList_some,List.map_append,List.map_cons,List.map_nil,← qfe]; exact h.sort (by repeat constructor)) (by show p.outs.length - (j + 1) < p.outs.length - j; omega) (by show j + 1 ≤ _; omega)
 have f6 := h6;try simp only [bl] at f6
 have hje : j = p.outs.length := by omega
 subst hje
 rw [List.take_length]
 refine qp (qc (qc (qo rfl (tC (cS (cS ?_))))));refine qbj (u := u) (xss := ocs os) (by repeat constructor) (qtv os) (qtw os) (by unfold maxLen; omega) (fun I3 hx3 hs3 => ?_);refine qbj (u := uu) (xss := ics (p.outs.map (plcZ p pl))) (by repeat constructor) (by rw [qb3,List.length_map]) (qt0 _) (by unfold maxLen; omega) (fun I4 hx4 hs4 => ?_)
 have htv : jp I4 u uu (lowT p) os := by
   rw [hlt]
   exact ⟨hs3.le hx4.le,fun o ho => (hok o ho).1.le (hx3.le.trans hx4.le),rfl,hs4⟩
 have hfw : ∀ o ∈ (lowT p).ops,OpC.few 3000 o := by
   rw [hlt]
   intro o ho
   obtain ⟨x,hx,rfl⟩ := List.mem_map.1 ho
   exact (hok x hx).2
 have hright := qk6 (lowT p) u uu os htv (fun o ho => ⟨Nat.le_trans (hfw o ho).1 (by decide),Nat.le_trans (hfw o ho).2 (by decide)⟩)
 have hti : (lowT p).ins = (p.ins.length : Nat) := rfl
 rw [hti] at hright
 refine cR ?_;refine oA isAgg56 sizeOf56 ?_;refine oQ call34 rfl hright ?_;refine oV ?_;refine nT ?_;refine cC rfl (fun h7 => ?_) (fun h7 => ?_)
 ·
  have f7 := h7;try simp only [bl] at f7
  refine sR ?_;refine qw trivial rfl (qdb) rfl .nil ?_;refine oS sizeOf56 ?_;iterate 2 refine oV ?_
  refine nF ?_;refine retR rfl (.agg isAgg56 sizeOf56 rfl (by repeat constructor) rfl (.tmp rfl (.tmp rfl .nil))) ?_;refine leaf (hx1.trans (hx2.trans (hx3.trans hx4 (Nat.le_refl _)) (Nat.le_refl _)) (Nat.le_refl _)) (List.nil_sublist _) ?_
  rw [hz,if_neg (by simpa using h7)]
  exact ⟨N0,N0,[],rfl,⟨Slc.nil _ _,fun o ho => (by cases ho),rfl,Slc.nil _ _⟩,fun o ho => by cases ho⟩
 have f7 := h7;try simp only [bl] at f7
 refine kS ?_;refine oA isAgg56 sizeOf56 ?_;refine oS sizeOf56 ?_;iterate 2 refine oV ?_
 refine nE ?_;refine retR rfl (.agg isAgg56 sizeOf56 rfl (by repeat constructor) rfl (.tmp rfl (.tmp rfl .nil))) ?_;refine leaf (hx1.trans (hx2.trans (hx3.trans hx4 (Nat.le_refl _)) (Nat.le_refl _)) (Nat.le_refl _)) (List.nil_sublist _) ?_
 rw [hz,if_pos (by simpa using h7)]
 exact ⟨u,uu,os,rfl,htv,hfw⟩
noncomputable def eqB {α : Type} (a b : α) : Bool := @decide (a = b) (Classical.propDecidable _)
theorem qmq {α : Type} {a b : α} : eqB a b = true ↔ a = b := by unfold eqB; exact @decide_eq_true_iff _ (Classical.propDecidable _)
theorem qmr {α : Type} {a b : α} (h : a ≠ b) : eqB a b = false := by
 cases e : eqB a b with
 | false => rfl
 | true => exact absurd (qmq.1 e) h
theorem qt2 {α : Type} (a : α) : eqB a a = true := qmq.2 rfl
theorem qt3 {α : Type} {l m : List α} (hl : l.length = m.length) {i : Nat} (h : l.take i = m.take i) (hi : l.length ≤ i) : l = m := by
 rwa [List.take_of_length_le hi,List.take_of_length_le (by omega)] at h
theorem take_more {α : Type} {l m : List α} {i : Nat} {x y : α} (h : l.take i = m.take i) (hx : l[i]? = some x) (hy : m[i]? = some y) (e : x = y) : l.take (i + 1) = m.take (i + 1) := by
 rw [List.take_add_one,List.take_add_one,h,hx,hy,e]
theorem qt4 {α : Type} {l m : List α} {i : Nat} {x y : α} (h : l = m) (hx : l[i]? = some x) (hy : m[i]? = some y) : x = y := by
 rw [h,hy] at hx; exact (Option.some.inj hx).symm
end Go.Proofs.YtfcmhcaggdakbaaGreatDoor
