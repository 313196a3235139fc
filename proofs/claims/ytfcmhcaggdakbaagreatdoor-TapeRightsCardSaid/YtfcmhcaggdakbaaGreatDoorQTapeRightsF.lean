/-
  TapeRights, part 6: the texts Needs, Tree11, Law12, Law14, Open, Open15 as one.
-/
import Derived.Test.YtfcmhcaggdakbaaGreatDoorQTapeRightsE
import Derived.Deep.Slices
set_option linter.unusedVariables false
set_option linter.unusedSimpArgs false
set_option linter.unnecessarySimpa false
set_option maxHeartbeats 1000000
namespace Go.Proofs.YtfcmhcaggdakbaaGreatDoor
open Go Go.Tw
def pc (m : Bool) : Nat := if m then 1 else 0
def inn : Ex → Nat
  | .ref _ => 0
  | .num _ => 0
  | .neg x => inn x + pc (decide (bindE x < 3))
  | .pow x _ => inn x + pc (decide (bindE x < 5))
  | .bin k x y => inn x + pc (decide (bindE x < if 4 ≤ k then 2 else 1)) + (inn y + pc (decide (bindE y < (if 4 ≤ k then 2 else 1) + 1)))
def need (x : Ex) (m : Int) : Nat := inn x + pc (decide (bindE x < m))
theorem pc_le (m : Bool) : pc m ≤ 1 := by cases m <;> decide
theorem pc_mono {b m n : Int} (h : m ≤ n) : pc (decide (b < m)) ≤ pc (decide (b < n)) := by
  by_cases h1 : b < m
  · rw [decide_eq_true h1, decide_eq_true (show b < n by omega)]; exact Nat.le_refl _
  · rw [decide_eq_false h1]; exact Nat.zero_le _
theorem need_mono (x : Ex) {m n : Int} (h : m ≤ n) : need x m ≤ need x n := Nat.add_le_add_left (pc_mono h) _
theorem need_low (x : Ex) {m : Int} (h : m ≤ 1) : need x m = inn x := by
  unfold need
  rw [decide_eq_false (by have := bindE_pos x; omega)]; rfl
theorem need_up (x : Ex) (m : Int) : need x m ≤ inn x + 1 := Nat.add_le_add_left (pc_le _) _
def lp : List Tok → Nat
  | [] => 0
  | t :: r => pc (isT t 2 lpar) + lp r
theorem lp_app : ∀ (a b : List Tok), lp (a ++ b) = lp a + lp b
  | [], b => by rw [List.nil_append]; show lp b = 0 + lp b; omega
  | t :: a, b => by rw [List.cons_append, lp, lp, lp_app a b]; omega
def Lv.at_ : Lv → Int
  | .atom => 5
  | .powL => 4
  | .power => 4
  | .factor => 3
  | .prodL => 2
  | .product => 2
  | .sumL => 1
  | .sum => 1
def Lv.from_ : Lv → Int
  | .powL => 5
  | lv => Lv.at_ lv
def cntOut (lv : Lv) (all : List NodeC) (r : List Tok) (a1 : List NodeC) (r1 : List Tok) : Prop :=
  if lv.tail then ∀ (b : List NodeC) (x : Ex), x.ok → all = b ++ x.nd b.length → ∃ y : Ex, y.ok ∧ a1 = b ++ y.nd b.length ∧ lp r1 + need y (Lv.at_ lv) ≤ lp r + need x (Lv.from_ lv)
  else ∃ y : Ex, y.ok ∧ a1 = all ++ y.nd all.length ∧ lp r1 + need y (Lv.at_ lv) ≤ lp r
theorem Expo.lp_ {r r1 : List Tok} {e : Option Int} (h : Expo r e r1) : lp r1 ≤ lp r := by
  have h1 : ∀ (x : Tok) (r : List Tok), lp r ≤ lp (x :: r) := fun x r => Nat.le_add_left _ _
  cases h with
  | neg _ _ _ => exact Nat.le_trans (h1 _ _) (h1 _ _)
  | neg_end _ => exact h1 _ _
  | neg_bad _ _ => exact h1 _ _
  | pos _ _ _ => exact h1 _ _
  | pos_end => exact Nat.le_refl _
  | pos_bad _ _ => exact Nat.le_refl _
theorem Ps.cnt {lv : Lv} {all : List NodeC} {r : List Tok} {o : POut} (h : Ps lv all r o) (hr : ToksOk r) : ∀ a1 r1, o = .ok a1 r1 → cntOut lv all r a1 r1 := by
  have bin_ex : ∀ {k : Int} {all a1 b : List NodeC} {x y : Ex}, 2 ≤ k ∧ k ≤ 5 → x.ok → y.ok → all = b ++ x.nd b.length → a1 = all ++ y.nd all.length → (Ex.bin k x y).ok ∧ a1 ++ [binN k (lastI all) (lastI a1)] = b ++ (Ex.bin k x y).nd b.length := by
    rintro k all a1 b x y hk hx hy rfl rfl;refine ⟨⟨hk.1, hk.2, hx, hy⟩, ?_⟩
    rw [lastI_nd, lastI_nd, List.length_append, x.nd_len, List.append_assoc, List.append_assoc]
    simp only [Ex.nd, List.append_assoc]
    congr 4
  have hc : ∀ (x : Tok) (r : List Tok), lp r ≤ lp (x :: r) := fun x r => Nat.le_add_left _ _
  induction h with
  | par_bad _ _ _ => intro _ _ e; cases e
  | @par_ok all a1 x y r r1 h1 h2 h3 ih =>
    intro _ _ e; cases e
    obtain ⟨z, hz, ez, hl⟩ := ih (hr.suf (List.suffix_cons _ _)) _ _ rfl
    refine ⟨z, hz, ez, ?_⟩
    have hy := hc y r1
    have hu := need_up z 5
    have hn : need z (Lv.at_ .sum) = inn z := need_low z (Int.le_refl _)
    rw [hn] at hl
    show lp r1 + need z 5 ≤ pc (isT x 2 lpar) + lp r
    rw [h1]
    show _ ≤ 1 + _
    omega
  | par_no _ _ _ _ => intro _ _ e; cases e
  | @leaf all x r h =>
    intro _ _ e; cases e
    obtain ⟨y, h1, hn, h3⟩ := leaf_ex h (hr _ (by simp))
    refine ⟨y, h1, by rw [h3], ?_⟩
    have h0 : need y 5 = 0 := by
      cases y with
      | ref t => rfl
      | num q => rfl
      | neg x => have := x.n_pos; simp only [Ex.n] at hn; omega
      | pow x e => have := x.n_pos; simp only [Ex.n] at hn; omega
      | bin k x y => have := x.n_pos; simp only [Ex.n] at hn; omega
    have := hc x r
    show lp r + need y 5 ≤ _
    omega
  | none => intro _ _ e; cases e
  | no _ _ => intro _ _ e; cases e
  | pow_none _ =>
    intro _ _ e; cases e
    exact fun b x hx hb => ⟨x, hx, hb, Nat.add_le_add_left (need_mono x (by decide)) _⟩
  | @pow_ok all x r r1 ee h1 h =>
    intro _ _ e; cases e
    refine fun b y hx hb => ⟨.pow y _, ⟨hx, h.le (hr.suf (List.suffix_cons _ _))⟩, ?_, ?_⟩
    · rw [hb, lastI_nd, List.append_assoc]; rfl
    · have h2 := Expo.lp_ h
      have h3 := hc x r
      have h4 : need (.pow y ee) (Lv.at_ .powL) = need y 5 := by
        unfold need
        rw [decide_eq_false (show ¬ bindE (.pow y ee) < Lv.at_ .powL by show ¬ (4 : Int) < 4; decide)]
        rfl
      rw [h4]
      show _ ≤ lp (x :: r) + need y 5
      omega
  | pow_bad _ _ => intro _ _ e; cases e
  | power_bad _ _ => intro _ _ e; cases e
  | power_ok h1 _ ih1 ih2 =>
    intro _ _ e
    obtain ⟨y, hy, e1, l1⟩ := ih1 hr _ _ rfl
    obtain ⟨z, hz, e2, l2⟩ := ih2 (hr.suf h1.suf) _ _ e _ y hy e1
    refine ⟨z, hz, e2, ?_⟩
    change _ + need y 5 ≤ _ at l1
    change _ + need z 4 ≤ _ + need y 5 at l2
    show _ + need z 4 ≤ _
    omega
  | neg_bad _ _ _ => intro _ _ e; cases e
  | @neg_ok all a1 x r r1 h1 h2 ih =>
    intro _ _ e; cases e
    obtain ⟨y, hy, e1, l1⟩ := ih (hr.suf (List.suffix_cons _ _)) _ _ rfl
    refine ⟨.neg y, hy, ?_, ?_⟩
    · rw [e1, lastI_nd, List.append_assoc]; rfl
    · have h3 := hc x r
      have h4 : need (.neg y) (Lv.at_ .factor) = need y 3 := by
        unfold need
        rw [decide_eq_false (show ¬ bindE (.neg y) < Lv.at_ .factor by show ¬ (3 : Int) < 3; decide)]
        rfl
      rw [h4]
      change _ + need y 3 ≤ _ at l1
      omega
  | fac _ _ ih =>
    intro _ _ e
    obtain ⟨y, hy, e1, l1⟩ := ih hr _ _ e
    refine ⟨y, hy, e1, Nat.le_trans (Nat.add_le_add_left (need_mono y (by decide)) _) l1⟩
  | prodL_end _ =>
    intro _ _ e; cases e
    exact fun b x hx hb => ⟨x, hx, hb, Nat.le_refl _⟩
  | prodL_bad _ _ _ => intro _ _ e; cases e
  | @prodL_ok all a1 x r r1 k o hk h1 h2 ih1 ih2 =>
    intro _ _ e b z hx hb
    have hr1 := hr.suf (List.suffix_cons _ _)
    obtain ⟨y, hy, e1, l1⟩ := ih1 hr1 _ _ rfl
    obtain ⟨h2, h3⟩ := bin_ex (mulK_le hk) hx hy hb e1
    obtain ⟨u, hu, e2, l2⟩ := ih2 (hr1.suf h1.suf) _ _ e b _ h2 h3
    refine ⟨u, hu, e2, ?_⟩
    have hxr := hc x r
    have h4 : need (.bin k z y) 2 = need z 2 + need y 3 := by
      have hge := (mulK_ge hk).1
      unfold need
      rw [decide_eq_false (show ¬ bindE (.bin k z y) < 2 by show ¬ (if 4 ≤ k then (2 : Int) else 1) < 2; rw [if_pos hge]; decide)]
      show inn z + pc (decide (bindE z < if 4 ≤ k then 2 else 1)) + (inn y + pc (decide (bindE y < (if 4 ≤ k then 2 else 1) + 1))) + 0 = _
      rw [if_pos hge]; rfl
    change _ + need u 2 ≤ _ + need (.bin k z y) 2 at l2
    change _ + need y 3 ≤ _ at l1
    show _ + need u 2 ≤ _ + need z 2
    omega
  | product_bad _ _ => intro _ _ e; cases e
  | product_ok h1 _ ih1 ih2 =>
    intro _ _ e
    obtain ⟨y, hy, e1, l1⟩ := ih1 hr _ _ rfl
    obtain ⟨z, hz, e2, l2⟩ := ih2 (hr.suf h1.suf) _ _ e _ y hy e1
    refine ⟨z, hz, e2, ?_⟩
    have hm := need_mono y (show (2 : Int) ≤ 3 by decide)
    change _ + need y 3 ≤ _ at l1
    change _ + need z 2 ≤ _ + need y 2 at l2
    show _ + need z 2 ≤ _
    omega
  | sumL_end _ =>
    intro _ _ e; cases e
    exact fun b x hx hb => ⟨x, hx, hb, Nat.le_refl _⟩
  | sumL_bad _ _ _ => intro _ _ e; cases e
  | @sumL_ok all a1 x r r1 k o hk h1 h2 ih1 ih2 =>
    intro _ _ e b z hx hb
    have hr1 := hr.suf (List.suffix_cons _ _)
    obtain ⟨y, hy, e1, l1⟩ := ih1 hr1 _ _ rfl
    obtain ⟨h2, h3⟩ := bin_ex (addK_le hk) hx hy hb e1
    obtain ⟨u, hu, e2, l2⟩ := ih2 (hr1.suf h1.suf) _ _ e b _ h2 h3
    refine ⟨u, hu, e2, ?_⟩
    have hxr := hc x r
    have h4 : need (.bin k z y) 1 = need z 1 + need y 2 := by
      have hlt := (addK_lt hk).2
      unfold need
      rw [decide_eq_false (show ¬ bindE (.bin k z y) < 1 by show ¬ (if 4 ≤ k then (2 : Int) else 1) < 1; rw [if_neg (by omega)]; decide)]
      show inn z + pc (decide (bindE z < if 4 ≤ k then 2 else 1)) + (inn y + pc (decide (bindE y < (if 4 ≤ k then 2 else 1) + 1))) + 0 = _
      rw [if_neg (by omega)]; rfl
    change _ + need u 1 ≤ _ + need (.bin k z y) 1 at l2
    change _ + need y 2 ≤ _ at l1
    show _ + need u 1 ≤ _ + need z 1
    omega
  | sum_bad _ _ => intro _ _ e; cases e
  | sum_ok h1 _ ih1 ih2 =>
    intro _ _ e
    obtain ⟨y, hy, e1, l1⟩ := ih1 hr _ _ rfl
    obtain ⟨z, hz, e2, l2⟩ := ih2 (hr.suf h1.suf) _ _ e _ y hy e1
    refine ⟨z, hz, e2, ?_⟩
    have hm := need_mono y (show (1 : Int) ≤ 2 by decide)
    change _ + need y 2 ≤ _ at l1
    change _ + need z 1 ≤ _ + need y 1 at l2
    show _ + need z 1 ≤ _
    omega
def innAll (l : List (ByteArray × Ex)) : Nat := (l.map fun a => inn a.2).sum
theorem innAll_app (a b : List (ByteArray × Ex)) : innAll (a ++ b) = innAll a + innAll b := by simp [innAll]
theorem lp_suf {a b : List Tok} (h : a <:+ b) : lp a ≤ lp b := by
  obtain ⟨c, rfl⟩ := h
  rw [lp_app]; omega
theorem Lt1.cnt {all a1 : List NodeC} {r r1 : List Tok} {s : ByteArray} (h : Lt1 all r (.ok s a1 r1)) (hr : ToksOk r) : nameZ s = true ∧ r1 <:+ r ∧ ∃ x : Ex, x.ok ∧ a1 = all ++ x.nd all.length ∧ lp r1 + inn x ≤ lp r := by
  obtain ⟨k1, k2, _⟩ := h.ex hr
  refine ⟨k1, k2, ?_⟩
  cases h with
  | ok h1 h2 h3 h4 =>
    obtain ⟨x, hx, e, hl⟩ := Ps.cnt h3 (hr.suf ⟨[_, _], rfl⟩) _ _ rfl
    refine ⟨x, hx, e, ?_⟩
    rw [show need x (Lv.at_ .sum) = inn x from need_low x (Int.le_refl _)] at hl
    rename_i x' y' z' r'
    have a1 : lp r1 ≤ lp (z' :: r1) := Nat.le_add_left _ _
    have a2 : lp r' ≤ lp (x' :: y' :: r') := lp_suf ⟨[_, _], rfl⟩
    omega
theorem Lts.cnt {ls : List LetC} {all : List NodeC} {r : List Tok} {o : LSO} (h : Lts ls all r o) : ToksOk r → ∀ l : List (ByteArray × Ex), LetsOk l → ls = (laid l 0).1 → all = (laid l 0).2 → ∀ ls1 a1 r1, o = .ok ls1 a1 r1 → r1 <:+ r ∧ ∃ l', LetsOk l' ∧ ls1 = (laid l' 0).1 ∧ a1 = (laid l' 0).2 ∧ lp r1 + innAll l' ≤ lp r + innAll l := by
  induction h with
  | fin _ => intro hr l hl h1 h2 _ _ _ e; cases e; exact ⟨List.suffix_refl _, l, hl, h1, h2, Nat.le_refl _⟩
  | bad _ _ => intro hr l hl h1 h2 _ _ _ e; cases e
  | more hx h3 h4 ih =>
    intro hr l hl h1 h2 ls1 a2 r2 e
    have hr1 := hr.suf (List.suffix_cons _ _)
    obtain ⟨k1, k2, x, hx2, e2, hc⟩ := Lt1.cnt h3 hr1
    subst h1 h2
    obtain ⟨q1, l', q2, q3, q4, q5⟩ := ih (hr1.suf k2) (l ++ [(_, x)]) (fun a ha => by
      rcases List.mem_append.1 ha with ha | ha
      · exact hl a ha
      · rw [List.mem_singleton.1 ha]; exact ⟨k1, hx2⟩) (by rw [laid_more, e2, lastI_nd]; simp) (by rw [laid_more, e2]; simp) _ _ _ e
    refine ⟨q1.trans (k2.trans (List.suffix_cons _ _)), l', q2, q3, q4, ?_⟩
    rw [innAll_app] at q5
    have e5 : ∀ s : ByteArray, innAll [(s, x)] = inn x := fun s => by simp [innAll]
    rw [e5] at q5
    rename_i a1' x' n' r' r1' o'
    have h9 : lp r' ≤ lp (x' :: r') := Nat.le_add_left _ _
    omega
theorem Prg.cnt {r : List Tok} {p : ProgC} (h : Prg r (.ok p)) (hr : ToksOk r) : ∃ l, Shaped p l ∧ innAll l ≤ lp r := by
  cases h with
  | ok h1 h2 h3 h4 h5 =>
    have hr1 := hr.suf (List.suffix_cons _ _)
    obtain ⟨k1, k2⟩ := namesZ_ok _ h2
    obtain ⟨q1, l, q2, q3, q4, q5⟩ := Lts.cnt h3 (hr1.suf k2) [] (fun a ha => by cases ha) rfl rfl _ _ _ rfl
    refine ⟨l, ⟨q3, q4, q2⟩, ?_⟩
    rename_i x' y' r' r1' r2' i' o' l' a'
    have h6 : lp r1' ≤ lp (x' :: r') := lp_suf (k2.trans (List.suffix_cons _ _))
    have h7 : innAll [] = 0 := rfl
    omega
def _root_.Go.Tw.NOut.rest : NOut → List Tok
  | .bad r => r
  | .ok _ r => r
theorem namesZ_suf : ∀ (r : List Tok), (namesZ r).rest <:+ r
  | [] => List.suffix_refl _
  | [x] => by
    unfold namesZ
    split
    · exact List.nil_suffix
    · exact List.suffix_refl _
  | x :: y :: r => by
    have ih := namesZ_suf r
    unfold namesZ
    split
    · split
      · cases h : namesZ r with
        | bad r1 => rw [h] at ih; exact List.IsSuffix.trans ih ⟨[_, _], rfl⟩
        | ok l r1 => rw [h] at ih; exact List.IsSuffix.trans ih ⟨[_, _], rfl⟩
      · split
        · exact ⟨[_, _], rfl⟩
        · exact List.suffix_cons _ _
    · exact List.suffix_refl _
def _root_.Go.Tw.LO.rest : LO → List Tok
  | .bad r => r
  | .ok _ _ r => r
theorem _root_.Go.Tw.Lt1.suf {all : List NodeC} {r : List Tok} {o : LO} (h : Lt1 all r o) : o.rest <:+ r := by
  cases h with
  | noname _ => exact List.suffix_refl _
  | noeq _ _ => exact List.suffix_cons _ _
  | sumbad _ _ h => exact List.IsSuffix.trans h.suf ⟨[_, _], rfl⟩
  | nosemi _ _ h _ => exact List.IsSuffix.trans h.suf ⟨[_, _], rfl⟩
  | ok _ _ h _ => exact List.IsSuffix.trans ((List.suffix_cons _ _).trans h.suf) ⟨[_, _], rfl⟩
def _root_.Go.Tw.LSO.rest : LSO → List Tok
  | .bad r => r
  | .ok _ _ r => r
theorem _root_.Go.Tw.Lts.suf {ls : List LetC} {all : List NodeC} {r : List Tok} {o : LSO} (h : Lts ls all r o) : o.rest <:+ r := by
  induction h with
  | fin _ => exact List.suffix_refl _
  | bad _ h => exact List.IsSuffix.trans h.suf (List.suffix_cons _ _)
  | more _ h _ ih => exact ih.trans (List.IsSuffix.trans h.suf (List.suffix_cons _ _))
theorem _root_.Go.Tw.Prg.suf {r r1 : List Tok} (h : Prg r (.bad r1)) : r1 <:+ r := by
  have nm : ∀ {r r1 : List Tok} {l : List ByteArray}, namesZ r = .ok l r1 → r1 <:+ r := fun {r r1 l} h => by have := namesZ_suf r; rw [h] at this; exact this
  have nb : ∀ {r r1 : List Tok}, namesZ r = .bad r1 → r1 <:+ r := fun {r r1} h => by have := namesZ_suf r; rw [h] at this; exact this
  cases h with
  | noin _ => exact List.suffix_refl _
  | insbad _ h => exact (nb h).trans (List.suffix_cons _ _)
  | letsbad _ h1 h2 => exact h2.suf.trans ((nm h1).trans (List.suffix_cons _ _))
  | noout _ h1 h2 _ => exact h2.suf.trans ((nm h1).trans (List.suffix_cons _ _))
  | outsbad _ h1 h2 _ h3 => exact (nb h3).trans ((List.suffix_cons _ _).trans (h2.suf.trans ((nm h1).trans (List.suffix_cons _ _))))
  | tail _ h1 h2 _ h3 => exact (nm h3).trans ((List.suffix_cons _ _).trans (h2.suf.trans ((nm h1).trans (List.suffix_cons _ _))))
theorem parse_of {s : ByteArray} {p : ProgC} {l : List (ByteArray × Ex)} (h1 : (lexZ s).err = 0) (h2 : (lexZ s).toks.map st = progQ p.ins p.outs l) (h : RightP p l) : parseZ s = ⟨p, 0, 0, 0⟩ := by
  have hp := progQ_prg h.ins.1 h.ins.2.1 h.ok h.outs.1 h.outs.2.1
  rw [← h.lets, ← h.all] at hp
  unfold parseZ
  rw [h1, if_neg (by decide), prgZ_ok_st h2 hp]
  unfold parseT
  dsimp only
  rw [if_pos (by rw [tZ_right h]; rfl)]
theorem dec1 : decS 1 = ⟨#[49]⟩ := by
  have h : digs 1 = [49] := by rw [digs, dif_pos (by decide)]
  unfold decS decL; rw [h]; rfl
theorem rat1 : ratS 1 = ⟨#[49]⟩ := by
  unfold ratS; rw [if_pos (show (1 : Rat).den = 1 from rfl)]; exact dec1
theorem ok_num {n : Nat} (h : n ≤ 9) : (Ex.num (n : Rat)).ok := by
  have e : digs n = [48 + n] := by rw [digs, dif_pos (by omega)]
  have e1 : digs 1 = [49] := by rw [digs, dif_pos (by decide)]
  refine ⟨?_, ?_, ?_⟩
  · show (0 : Int) ≤ ((n : Int) : Int); omega
  · show (digs ((n : Int).natAbs)).length ≤ 40; rw [Int.natAbs_natCast, e]; show 1 ≤ 40; decide
  · show (digs 1).length ≤ 40; rw [e1]; decide
theorem o_eqlS {P : Program} {Q : Exit → Act → World → Prop} {ops : Array Oper} {rest : List Oper} {n d : Nat} {D : List Deferred} {E : Env} {S : World → Prop} {ty : TypeId} {pos : String} {aft : Array Edge} {g : Option (Nat × Bool)} {qm : Bool} {x y : Operand} {t t2 : TypeId} {a : Bool} (hg : Wants ops E g) (hd : Nat.blt d n = true) (hx : ev E x = some (.bool a)) (hy : ev E y = some (.bool a)) (ht : P.underlying t = some .bool)
    (k : TL qm P ops Q rest n D ((d, .bool true) :: E) S) : TL qm P ops Q (⟨some d, .binOp .eql t x y t2, ty, pos, aft, g⟩ :: rest) n D E S :=
  o_eqlB hg hd hx hy ht (by rw [beq_self_eq_true]; exact k)
def s14 : ByteArray := ⟨#[105, 110, 32, 120, 59, 32, 108, 101, 116, 32, 97, 32, 61, 32, 120, 59, 32, 108, 101, 116, 32, 98, 32, 61, 32, 97, 32, 42, 32, 40, 97, 32, 43, 32, 49, 41, 59, 32, 111, 117, 116, 32, 98, 44, 32, 120, 59]⟩
def x14 : Ex := .bin 4 (.ref awA) (.bin 2 (.ref awA) (.num 1))
def l14 : List (ByteArray × Ex) := [(awA, .ref awX), (awB, x14)]
def p14 : ProgC := ⟨[awX], (laid l14 0).1, [awB, awX], (laid l14 0).2⟩
def t14 : TapeC := ⟨1, [constC (mkRat 1 1), ⟨2, 0, 1, 0, false, [], []⟩, ⟨4, 0, 2, 0, false, [], []⟩], [3, 0]⟩
theorem ok14 : x14.ok := ⟨by decide, by decide, nameZ_A, by decide, by decide, nameZ_A, ok_num (n := 1) (by decide)⟩
theorem right14 : RightP p14 l14 where
  lets := rfl
  all := rfl
  ok := fun a ha => by
    simp only [l14, List.mem_cons, List.not_mem_nil, or_false] at ha
    rcases ha with rfl | rfl
    · exact ⟨nameZ_A, nameZ_X⟩
    · exact ⟨nameZ_B, ok14⟩
  ins := ⟨fun s hs => by rw [List.mem_singleton.1 hs]; exact nameZ_X, by decide, by decide⟩
  outs := ⟨fun s hs => by
    simp only [p14, List.mem_cons, List.not_mem_nil, or_false] at hs
    rcases hs with rfl | rfl
    · exact nameZ_B
    · exact nameZ_X, by decide, by decide⟩
  few := ⟨by decide, by decide⟩
  low := fun a ha => by
    simp only [l14, List.mem_cons, List.not_mem_nil, or_false] at ha
    rcases ha with rfl | rfl <;> decide
theorem toks14 : progQ p14.ins p14.outs l14 = [tk 0 inS, tk 0 awX, tk 2 semiS, tk 0 letS, tk 0 awA, tk 2 equalS, tk 0 awX, tk 2 semiS, tk 0 letS, tk 0 awB, tk 2 equalS, tk 0 awA, tk 2 starS, tk 2 lpar, tk 0 awA, tk 2 plusS, tk 1 ⟨#[49]⟩, tk 2 rpar, tk 2 semiS, tk 0 outS, tk 0 awB, tk 2 commaS, tk 0 awX, tk 2 semiS] := by
  have h1 : shP (.ref awX) = [tk 0 awX] := rfl
  have h2 : shP x14 = [tk 0 awA, gp, tk 2 starS, gp, tk 2 lpar, tk 0 awA, gp, tk 2 plusS, gp, tk 1 (ratS 1), tk 2 rpar] := rfl
  show namesK inS p14.ins ++ ((letQ (awA, .ref awX) ++ (letQ (awB, x14) ++ [])) ++ namesK outS p14.outs) = _
  unfold letQ
  dsimp only
  rw [h1, h2, rat1]
  rfl
theorem parse14 : parseZ s14 = ⟨p14, 0, 0, 0⟩ := parse_of (by kernel_rfl) (by rw [toks14]; kernel_rfl) right14
def K14 : KN := [(awX, ⟨false, 0⟩), (awA, ⟨true, 0⟩), (awB, ⟨true, 1⟩)]
theorem read14 : (readZ p14).err = 0 ∧ (readZ p14).K = K14 := by
  have h := readZ_outs (p := p14) (n := ⟨#[]⟩) (m := ⟨#[]⟩) (K := [(awX, ⟨false, 0⟩)]) (K2 := K14) (L := [awX, awA, awA]) (by rw [tZ_right right14]; rfl) (by kernel_rfl) (by kernel_rfl)
  rw [h]
  exact ⟨by kernel_rfl, rfl⟩
theorem where14 (s : ByteArray) : whereZ p14 s = if hasK s K14 = true then (((getK s K14).getD ⟨false, 0⟩).l, ((getK s K14).getD ⟨false, 0⟩).i, true) else (false, 0, false) := by
  unfold whereZ
  rw [read14.1, read14.2]
  simp
theorem lowGo_ref {p : ProgC} {c : NodeC} {r : List NodeC} {i : Nat} {pl : List Int} {ops : List OpC} {z : Int} (h : c.kind = 0) (hz : plcZ p pl c.name = z) : lowGo p (c :: r) i pl ops = lowGo p r (i + 1) (pl.set i z) ops := by
  rw [lowGo, if_pos h, hz]
theorem lowGo_op {p : ProgC} {c : NodeC} {r : List NodeC} {i : Nat} {pl : List Int} {ops : List OpC} (h : c.kind ≠ 0) : lowGo p (c :: r) i pl ops = lowGo p r (i + 1) (pl.set i ((p.ins.length : Int) + ops.length)) (ops ++ [opL c (pl.set i ((p.ins.length : Int) + ops.length))]) := by
  rw [lowGo, if_neg h]
theorem lowT14 : lowT p14 = t14 := by
  have hp : ∀ pl s, plcZ p14 pl s = if (whereZ p14 s).1 = true then pl.getD ((p14.lets.getD (whereZ p14 s).2.1.toNat ⟨⟨#[]⟩, 0⟩).root.toNat) 0 else (whereZ p14 s).2.1 := fun _ _ => rfl
  have wX : whereZ p14 awX = (false, 0, true) := by rw [where14]; kernel_rfl
  have wA : whereZ p14 awA = (true, 0, true) := by rw [where14]; kernel_rfl
  have wB : whereZ p14 awB = (true, 1, true) := by rw [where14]; kernel_rfl
  have pX : ∀ pl, plcZ p14 pl awX = 0 := fun pl => by rw [hp, wX]; rfl
  have pA : ∀ pl, plcZ p14 pl awA = pl.getD 0 0 := fun pl => by rw [hp, wA]; rfl
  have pB : ∀ pl, plcZ p14 pl awB = pl.getD 5 0 := fun pl => by rw [hp, wB]; rfl
  have e1 : lowAll p14 = ([0, 0, 0, 1, 2, 3], t14.ops) := by
    unfold lowAll
    have e2 : p14.all = [refN awX, refN awA, refN awA, numN 1, binN 2 2 3, binN 4 1 4] := by kernel_rfl
    rw [e2]
    show lowGo p14 _ 0 [0, 0, 0, 0, 0, 0] [] = _
    rw [lowGo_ref rfl (pX _), lowGo_ref rfl (pA _), lowGo_ref rfl (pA _), lowGo_op (by decide), lowGo_op (by decide), lowGo_op (by decide)]
    have e3 : mkRat 1 1 = (1 : Rat) := by decide +kernel
    unfold t14
    rw [e3]
    rfl
  unfold lowT
  rw [e1]
  show (⟨1, t14.ops, [plcZ p14 [0, 0, 0, 1, 2, 3] awB, plcZ p14 [0, 0, 0, 1, 2, 3] awX]⟩ : TapeC) = _
  rw [pB, pX]
  rfl
theorem w14 : tapeW t14 = some [1, 1, 2, 3] := by
  have h := constC_ok (q := mkRat 1 1) (by decide +kernel) (by decide +kernel)
  unfold tapeW t14
  simp only [wgts, h, constC_w, if_true]
  decide +kernel
theorem low14 : lowZ p14 = ⟨t14, ⟨#[]⟩, 0⟩ := by
  unfold lowZ
  rw [if_neg (by rw [read14.1]; decide), lowT14, w14]
  exact if_pos rfl
theorem few14 : ∀ o ∈ t14.ops, OpC.few 3000 o := fun o ho => by
  simp only [t14, List.mem_cons, List.not_mem_nil, or_false] at ho
  rcases ho with rfl | rfl | rfl
  · exact few_const (bd_small (by decide) (by decide))
  · exact few_none _ _ _ _
  · exact few_none _ _ _ _
theorem few_two {l : List OpC} (h : ∀ o ∈ l, OpC.few 3000 o) : ∀ o ∈ l, OpC.few 2000000 o := fun o ho => ⟨Nat.le_trans (h o ho).1 (by decide), Nat.le_trans (h o ho).2 (by decide)⟩
theorem awake14_any {I : Hp} (hT : Tabs I) (hM : Mx I) (hE : Errs I) : Fun Tryz.prog 29 [] I [] (fun v _ _ => v = .bool true) := by
  have hpa := parse_any s14 hT hM hE (by decide)
  rw [parse14] at hpa
  intro w hw
  refine enter0 _ Tryz.func29 rfl Tryz.ntmps29 ?_ hw;refine sR ?_;refine oV ?_;refine nS ?_;refine oI Tryz.call27 rfl hpa ?_;rintro _ I1 hx1 ⟨vi, vl, vo, va, ns, rfl, hp, hf⟩;refine oV ?_
  have hp : ProgV I1 vi vl vo va p14 ns := hp
  have hsi := hp.si
  have hsl := hp.sl
  have hso := hp.so
  have hsa := hp.sa
  have hf' : ∀ o ∈ ns, o.c.few 3000 := fun o ho => ⟨Nat.le_trans (hf o ho).1 (by decide), Nat.le_trans (hf o ho).2 (by decide)⟩
  have hlow := lowerT_any vi vl vo va p14 ns hp hf'
  rw [low14] at hlow
  iterate 3 refine oV ?_
  refine o_alloc trivial rfl Tryz.zeroValue26 rfl (fun b1 => ?_);refine o_alloc trivial rfl Tryz.zeroValue48 rfl (fun b2 => ?_);refine oS Tryz.sizeOf26 ?_;refine oS Tryz.sizeOf48 ?_;refine oV ?_;refine nS ?_;refine oA Tryz.isAgg26 Tryz.sizeOf26 ?_;refine oI Tryz.call30 rfl hlow ?_;rintro _ I2 hx2 ⟨wo, wu, os, rfl, ht, hfo⟩;refine oV ?_
  have ht : TapeV I2 wo wu t14 os := ht
  have hto := ht.so
  have htu := ht.su
  iterate 3 refine oV ?_
  refine o_alloc trivial rfl Tryz.zeroValue56 rfl (fun b4 => ?_);refine oS Tryz.sizeOf56 ?_;iterate 2 refine oV ?_
  refine nS ?_;refine oI Tryz.call63 rfl (rOf8_any 1 (by decide)) ?_;rintro _ I3 hx3 ⟨u1, u2, rfl, k1, k2⟩;refine o_buildS trivial rfl (bld69) rfl (.cons rfl rfl rfl (by repeat constructor) (.cons rfl rfl rfl (by repeat constructor) .nil)) ?_;iterate 2 refine o_buildS trivial rfl (bld69) rfl (.cons rfl rfl rfl (by repeat constructor) (.cons rfl rfl rfl (by repeat constructor) (.cons rfl rfl rfl (by repeat constructor) .nil))) ?_
  refine oB Tryz.underlying54 Tryz.sizeOf69 Tryz.zeroValue69 fun b23 => ?_;refine oB Tryz.underlying52 Tryz.sizeOf3 Tryz.zeroValue3 fun b24 => ?_;refine l_sealB (b := b23) (.there .here) (fun I4 hx4 hb23 => ?_);refine l_sealB (b := b24) .here (fun I5 hx5 hb24 => ?_)
  have hl5 := hx4.le.trans hx5.le
  have hq : TapeV I5 (.slice (some ⟨b23, 0, none⟩) 3 3) (.slice (some ⟨b24, 0, none⟩) 2 2) t14 [⟨constC (mkRat 1 1), u1, u2⟩, plainO 2 0 1 0, plainO 4 0 2 0] := TapeV.of (t := t14) [⟨constC (mkRat 1 1), u1, u2⟩, plainO 2 0 1 0, plainO 4 0 2 0] (hx5.le _ _ hb23) hb24 (fun o ho => by
    simp only [List.mem_cons, List.not_mem_nil, or_false] at ho
    rcases ho with rfl | rfl | rfl
    · exact ⟨k1.le hl5, k2.le hl5⟩
    · exact plainO_ok _ _ _ _ _
    · exact plainO_ok _ _ _ _ _) rfl (Nat.le_of_ble_eq_true rfl) (Nat.le_of_ble_eq_true rfl)
  have ht5 := ht.le (hx3.le.trans hl5)
  have hwt := tWeights_any t14 wo wu os ht5 (few_two few14)
  have hri := tapeRight_any t14 wo wu os ht5 (few_two few14)
  have hsm := tSame_any wo wu _ _ t14 t14 os _ ht5 hq
  rw [w14] at hwt hri
  refine o_buildS trivial rfl (bld56) rfl (.cons rfl rfl rfl (by repeat constructor) (.cons rfl (by first | exact (Ws.cells1 (by assumption)).1 | exact (Slc.cells1 (by assumption)).1 | rfl) (by rfl) (by repeat constructor) (.cons rfl (by first | exact (Ws.cells1 (by assumption)).1 | exact (Slc.cells1 (by assumption)).1 | rfl) (by rfl) (by repeat constructor) .nil))) ?_;refine o_alloc trivial rfl Tryz.zeroValue56 rfl (fun b7 => ?_);refine oS Tryz.sizeOf56 ?_;refine nS ?_;iterate 2 refine oV ?_
  refine' o_and trivial trivial rfl rfl rfl rfl rfl rfl rfl rfl (fun hb28 => ?_) ?_;rotate_left
  ·
   iterate 2 refine gV hb28 ?_
   refine oN ?_;exact joins rfl
  refine' o_and trivial trivial rfl rfl rfl rfl rfl rfl rfl rfl (fun hb32 => ?_) ?_;rotate_left
  ·
   iterate 2 refine gV hb32 ?_
   refine oN ?_;exact joins rfl
  refine' o_and trivial trivial rfl rfl rfl rfl rfl rfl rfl rfl (fun hb36 => ?_) ?_;rotate_left
  ·
   have fb36 := hb36
   try simp only [bl] at fb36
   iterate 2 refine o_loadA (wS rfl rfl hb36) rfl Tryz.isAgg56 Tryz.sizeOf56 rfl (by repeat constructor) (by repeat constructor) ?_
   refine o_callQ (wS rfl rfl hb36) rfl Tryz.call32 rfl hsm ?_;refine oN ?_;exact joins rfl
  refine' o_and trivial trivial rfl rfl rfl rfl rfl rfl rfl rfl (fun hb41 => ?_) ?_;rotate_left
  ·
   have fb41 := hb41
   try simp only [bl] at fb41
   refine o_loadA (wS rfl rfl hb41) rfl Tryz.isAgg56 Tryz.sizeOf56 rfl (by repeat constructor) (by repeat constructor) ?_;refine o_callI (wS rfl rfl hb41) rfl Tryz.call37 rfl hwt ?_;rintro _ I6 hx6 hs6;refine o_buildSl (wS rfl rfl hb41) rfl Tryz.underlying52 Tryz.sizeOf3 Tryz.zeroValue3 (by decide) (by decide) rfl (by repeat first | exact rfl | constructor) rfl (fun b44 => ?_);refine l_sealB .here (fun I7 hx7 hb44 => ?_)
   have hri := tapeRight_any t14 wo wu os (ht5.le (hx6.le.trans hx7.le)) (few_two few14)
   rw [w14] at hri
   refine o_callQ (wS rfl rfl hb41) rfl Tryz.call36 rfl (ints_any _ _ [1, 1, 2, 3] (hs6.le hx7.le) (Slc.of_box (sz := 1) (xss := nss [1, 1, 2, 3]) (c := 4) hb44 (nss_one _) (by decide) (by decide))) ?_;refine oN ?_;exact joinsW rfl (fun _ h => (h.sort (by repeat constructor)).fewer ((hx6.le).trans hx7.le))
  refine' o_and trivial trivial rfl rfl rfl rfl rfl rfl rfl rfl (fun hb47 => ?_) ?_;rotate_left
  ·
   have fb47 := hb47
   try simp only [bl] at fb47
   refine o_loadA (wS rfl rfl hb47) rfl Tryz.isAgg56 Tryz.sizeOf56 rfl (by repeat constructor) (by repeat constructor) ?_;refine o_callQ (wS rfl rfl hb47) rfl Tryz.call34 rfl hri ?_;refine oN ?_;exact joins rfl
  refine oV ?_;refine nE ?_;refine ret1 rfl rfl ?_;exact leaf (hx1.trans (hx2.trans (hx3.trans (hx4.trans hx5 (Nat.le_refl _)) (Nat.le_refl _)) (Nat.le_refl _)) (Nat.le_refl _)) (List.nil_sublist _) (congrArg Value.bool (by simp [eqB_self]))
theorem TapeRights_any (t : TapeC) (vo vu : Value) (os : List OpV) {I : Hp} (ht : TapeV I vo vu t os) (hT : Tabs I) (hM : Mx I) (hE : Errs I) : Fun Tryz.prog 11 [.agg #[.int .i64 t.ins, vo, vu]] I [] (fun v _ _ => v = .bool true) := by
  have hto := ht.so
  have htu := ht.su
  intro w hw
  refine enter1 _ Tryz.func11 rfl Tryz.ntmps11 rfl ?_ hw;refine sR ?_;refine o_box trivial rfl rfl rfl (fun b1 => ?_);refine oV ?_;refine nS ?_;refine oQ Tryz.call29 rfl (awake14_any hT hM hE) ?_;refine oV ?_;refine nS ?_;refine oA Tryz.isAgg56 Tryz.sizeOf56 ?_;refine oQ Tryz.call33 rfl (fewR_any t vo vu os 40 ht) ?_;refine oV ?_;refine nU ?_;iterate 2 refine oV ?_
  refine nT ?_;refine cC rfl (fun h1 => ?_) (fun h1 => ?_)
  ·
   have f1 := h1;try simp only [bl] at f1
   refine sR ?_;iterate 2 refine oV ?_
   refine nF ?_;refine ret1 rfl rfl ?_;exact leaf0 rfl
  have f1 := h1;try simp only [bl] at f1
  have hf : ∀ o ∈ t.ops, OpC.few 3000 o := fun o ho => by
    have g1 : fewT t 40 = true := by simpa using h1
    unfold fewT at g1
    rw [Bool.and_eq_true] at g1
    have := List.all_eq_true.1 g1.2 o ho
    rw [decide_eq_true_eq] at this
    exact ⟨by omega, by omega⟩
  refine cK (tC (cS ?_));refine h_beginB (m := 16) [.box b1 _] (by repeat constructor) (by kernel_rfl) rfl ?_;refine qT (i := 0) (qB 16 1) (Hp.Le.refl _) rfl rfl (oV qF) ?_;refine qT (i := 1) (qB 16 3) (Hp.Le.refl _) rfl rfl (oV qF) ?_;refine qT (i := 2) (qB 16 7) (Hp.Le.refl _) rfl rfl (o_loadA (wS rfl rfl rfl) rfl Tryz.isAgg56 Tryz.sizeOf56 rfl (by repeat constructor) (by repeat constructor) qF) ?_;refine qT (i := 4) (qB 16 23) (Hp.Le.refl _) rfl rfl (o_loadA (wS rfl rfl rfl) rfl Tryz.isAgg56 Tryz.sizeOf56 rfl (by repeat constructor) (by repeat constructor) qF) ?_;refine qO (i := 3) (qB 16 31) rfl ?_;refine o_callQ (wS rfl rfl rfl) rfl Tryz.call34 rfl (tapeRight_any t vo vu os ht (few_two hf)) ?_;refine qM (Hp.Le.refl _) ?_;refine qO (i := 5) (qB 16 63) rfl ?_;refine o_callQ (wS rfl rfl rfl) rfl Tryz.call35 rfl (rightR_any t vo vu os ht hf) ?_;refine qM (Hp.Le.refl _) ?_;refine qT (i := 6) (qB 16 127) (Hp.Le.refl _) rfl rfl (o_eqlS (wS rfl rfl rfl) rfl rfl rfl Tryz.underlying4 qF) ?_;refine qT (i := 7) (qB 16 255) (Hp.Le.refl _) rfl rfl (oV qF) ?_;refine qT (i := 8) (qB 16 511) (Hp.Le.refl _) rfl rfl (oV qF) ?_;refine qT (i := 9) (qB 16 1023) (Hp.Le.refl _) rfl rfl (o_loadA (wS rfl rfl rfl) rfl Tryz.isAgg56 Tryz.sizeOf56 rfl (by repeat constructor) (by repeat constructor) qF) ?_;refine qT (i := 11) (qB 16 3071) (Hp.Le.refl _) rfl rfl (o_loadA (wS rfl rfl rfl) rfl Tryz.isAgg56 Tryz.sizeOf56 rfl (by repeat constructor) (by repeat constructor) qF) ?_
  refine qO (i := 10) (qB 16 4095) rfl ?_;refine o_callI (wS rfl rfl rfl) rfl Tryz.call37 rfl (tWeights_any t vo vu os (by first | exact ht | exact ht.le hx2.le) (few_two hf)) ?_;rintro v21 I1 hx1 hs1;refine qM (hx1.le) ?_;refine qO (i := 12) (qB 16 8191) rfl ?_;refine o_callI (wS rfl rfl rfl) rfl Tryz.call38 rfl (weightsR_any t vo vu os (by first | exact ht | exact ht.le hx1.le) hf) ?_;rintro v23 I2 hx2 hs2;refine qM ((hx1.le).trans hx2.le) ?_;refine qO (i := 13) (qB 16 16383) rfl ?_;refine o_callQ (wS rfl rfl rfl) rfl Tryz.call36 rfl (by first | exact ints_any _ _ _ (hs1.le hx2.le) hs2 | exact ints_any _ _ _ hs1 (hs2.le hx1.le)) ?_;refine qM ((hx1.le).trans hx2.le) ?_;refine qT (i := 14) (qB 16 32767) ((hx1.le).trans hx2.le) rfl rfl (oV qF) ?_;refine qT (i := 15) (qB 16 65535) ((hx1.le).trans hx2.le) rfl rfl (oV qF) ?_;refine h_end (by kernel_rfl) ?_;refine tC (cT ?_);refine ret1 rfl rfl ?_
  first | exact leaf (hx1.trans hx2 (Nat.le_refl _)) (List.nil_sublist _) rfl | exact leaf (hx2.trans hx1 (Nat.le_refl _)) (List.nil_sublist _) rfl
end Go.Proofs.YtfcmhcaggdakbaaGreatDoor
namespace Go.Tw
open Go Go.RowKit Go.ChangeShapes Go.WideShapes Go.ChangeAt Go.Deep
def Tr {H : Type} (enc : TypeId × Value → H) (P : Program) (W : World) (t : TypeId) (cs : List Value) : Prop := ∃ n x, DataW.trod enc P W 0 (fun _ => true) true n t cs = some x
section
variable {base : Nat} {H : Type} {enc : TypeId × Value → H} {P : Program} {W : World} {t e : TypeId} {v : Value} {cs : List Value} {d : DataW H} {ps : List MemPlace}
theorem tr_of_struct {fs : Array Field} (ht : P.underlying t = some (.struct fs)) (hval : Value.okWide P W .any base t v) (h : DataW.Trod enc P W 0 (fun _ => true) true t v d ps) : ∃ cs : List Value, v = .agg cs.toArray ∧ Tr enc P W t cs := by
  obtain ⟨cs, rfl, _⟩ := okWide_struct ht hval
  obtain ⟨n, h⟩ := h
  exact ⟨cs.toList, by simp, n, _, h⟩
theorem tr_int {k : IntKind} (ht : P.underlying t = some (.int k)) (h : Tr enc P W t [v]) : ∃ z, v = .int k z ∧ (Lit.int k z).wf = true := by
  obtain ⟨n, x, h⟩ := h
  obtain ⟨z, h1, _, h2⟩ := DataW.trod_int ht h
  exact ⟨z, (List.cons.inj h1).1, h2⟩
theorem tr_bool (ht : P.underlying t = some .bool) (h : Tr enc P W t [v]) : ∃ b, v = .bool b := by
  obtain ⟨n, x, h⟩ := h
  obtain ⟨z, h1, _⟩ := DataW.trod_bool ht h
  exact ⟨z, (List.cons.inj h1).1⟩
theorem tr_struct {fs : Array Field} (ht : P.underlying t = some (.struct fs)) (h : Tr enc P W t cs) : cs.length = P.cellsOf t ∧ ∀ (i : Nat) (f : Field), fs[i]? = some f → Tr enc P W f.type ((cs.drop f.offset).take (P.cellsOf f.type)) := by
  obtain ⟨n, x, h⟩ := h
  obtain ⟨xs, m, _, _, hl, hx, hf⟩ := DataW.trod_struct ht h
  refine ⟨hl, fun i f hi => ?_⟩
  have h1 := hf i f hi
  have hlt : i < xs.length := by rw [hx]; exact (Array.getElem?_eq_some_iff.1 hi).1
  rw [List.getElem?_eq_getElem hlt] at h1
  exact ⟨m, _, h1⟩
theorem tr_rows {sz : Nat} (ht : P.underlying t = some (.slice e)) (hsz : P.cellsOf e = sz) (hpos : 0 < sz) (h : Tr enc P W t [v]) : ∃ xss : List (List Value), Slc (World.hp W) sz v xss ∧ ∀ c ∈ xss, Tr enc P W e c := by
  obtain ⟨n, x, h⟩ := h
  rcases open_slice ht h with ⟨h1, _⟩ | ⟨a, len, cap, m, n', D, Pl, h1, hb, hl, hc, hm, _, hx⟩
  · obtain rfl := (List.cons.inj h1).1
    exact ⟨[], Slc.nil _ _, fun c hc => by cases hc⟩
  · obtain rfl := (List.cons.inj h1).1
    subst hsz
    simp only [if_true] at hm
    subst hm
    obtain ⟨G, hG⟩ := choose_lt (α := List Value) (p := fun i cs' => W.cells? 0 (a.add (i * P.cellsOf e)) (P.cellsOf e) = some cs' ∧ DataW.trod enc P W 0 (fun _ => true) true n' e cs' = some (D i, Pl i)) hx
    have hcell : ∀ i, i < m → (G i).length = P.cellsOf e ∧ ∀ k, k < P.cellsOf e → W.cell? (a.add (i * P.cellsOf e + k)) = (G i)[k]? := fun i hi => by
      obtain ⟨h2, h3, h4⟩ := World.cells?_some (hG i hi).1
      refine ⟨h3, fun k hk => ?_⟩
      rw [← h4 k hk, add_add]
    refine ⟨(List.range len).map G, ?_, fun c hc => ?_⟩
    · have hlen : ((List.range len).map G).length = len := by simp
      have hlens : ∀ c ∈ (List.range len).map G, c.length = P.cellsOf e := fun c hc => by
        obtain ⟨i, hi, rfl⟩ := List.mem_map.1 hc
        exact (hcell i (by have := List.mem_range.1 hi; omega)).1
      by_cases h0 : m = 0
      · have hl0 : len = 0 := by omega
        subst h0
        subst hl0
        exact Slc.nilA _ _ _
      · have hsp : a.spot = none := by
          have h2 := (hcell 0 (by omega)).2 0 hpos
          have h3 : 0 < (G 0).length := by rw [(hcell 0 (by omega)).1]; exact hpos
          rw [List.getElem?_eq_getElem h3] at h2
          unfold World.cell? at h2
          split at h2
          · split at h2
            · cases h2
            · rename_i hs
              have hz : a.add (0 * P.cellsOf e + 0) = a := by rw [Nat.zero_mul]; unfold Addr.add; simp
              rw [hz] at hs
              cases hsp : a.spot with
              | none => rfl
              | some s => rw [hsp] at hs; simp at hs
          · cases h2
        obtain ⟨b, off, s⟩ := a
        change s = none at hsp
        subst hsp
        refine ⟨.inr ⟨b, off, m, by rw [hlen], by rw [hlen]; exact hl⟩, fun j c hj k u hk => ?_, hlens, by rw [hlen]; omega⟩
        rw [List.getElem?_map] at hj
        have hjl : j < len := by
          by_cases hjl : j < len
          · exact hjl
          · rw [List.getElem?_eq_none (by simp; omega)] at hj; cases hj
        rw [List.getElem?_range hjl] at hj
        cases hj
        have hkl := (List.getElem?_eq_some_iff.1 hk).1
        rw [(hcell j (by omega)).1] at hkl
        have h2 := (hcell j (by omega)).2 k hkl
        rw [hk, add_none] at h2
        rw [hp_cell]
        simp only [slcB, slcO]
        rw [Nat.add_assoc]
        exact h2
    · obtain ⟨i, hi, rfl⟩ := List.mem_map.1 hc
      exact ⟨n', _, (hG i (by have := List.mem_range.1 hi; omega)).2⟩
theorem tr_ints {k : IntKind} {xss : List (List Value)} {sz : Nat} (ht : P.underlying t = some (.int k)) (hs : Slc (World.hp W) 1 v xss) (h : ∀ c ∈ xss, Tr enc P W t c) : ∃ zs : List Int, xss = zs.map (fun z => [.int k z]) ∧ ∀ z ∈ zs, (Lit.int k z).wf = true := by
  have key : ∀ (l : List (List Value)), (∀ c ∈ l, c.length = 1 ∧ Tr enc P W t c) → ∃ zs : List Int, l = zs.map (fun z => [.int k z]) ∧ ∀ z ∈ zs, (Lit.int k z).wf = true := by
    intro l
    induction l with
    | nil => exact fun _ => ⟨[], rfl, fun z hz => by cases hz⟩
    | cons c l ih =>
      intro hl
      obtain ⟨zs, h1, h2⟩ := ih fun c hc => hl c (List.mem_cons_of_mem _ hc)
      obtain ⟨h3, h4⟩ := hl c List.mem_cons_self
      match c, h3 with
      | [x], _ =>
        obtain ⟨z, rfl, h5⟩ := tr_int ht h4
        exact ⟨z :: zs, by rw [h1]; rfl, fun y hy => by
          rcases List.mem_cons.1 hy with rfl | hy
          · exact h5
          · exact h2 y hy⟩
  exact key xss fun c hc => ⟨hs.lens c hc, h c hc⟩
theorem rows_map {α : Type} {f : α → List Value} {p : α → Prop} {xss : List (List Value)} (h : ∀ c ∈ xss, ∃ a, c = f a ∧ p a) : ∃ zs : List α, xss = zs.map f ∧ ∀ a ∈ zs, p a := by
  induction xss with
  | nil => exact ⟨[], rfl, fun a h => by cases h⟩
  | cons c l ih =>
    obtain ⟨zs, h1, h2⟩ := ih fun c hc => h c (List.mem_cons_of_mem _ hc)
    obtain ⟨a, ha, hp⟩ := h c List.mem_cons_self
    exact ⟨a :: zs, by rw [ha, h1]; rfl, fun b hb => by
      rcases List.mem_cons.1 hb with rfl | hb
      · exact hp
      · exact h2 b hb⟩
end
end Go.Tw
namespace Go.Proofs.YtfcmhcaggdakbaaGreatDoor
open Go Go.Tw Go.ChangeShapes Go.WideShapes Go.ChangeAt
set_option maxRecDepth 100000
section
variable {base : Nat} {H : Type} {enc : TypeId × Value → H} {W : World} {v : Value} {cs : List Value} {d : DataW H} {ps : List MemPlace}
theorem cells_int : Tryz.prog.cellsOf 3 = 1 := by kernel_rfl
theorem cells_bool : Tryz.prog.cellsOf 4 = 1 := by kernel_rfl
theorem cells_u32 : Tryz.prog.cellsOf 134 = 1 := by kernel_rfl
theorem cells_u32s : Tryz.prog.cellsOf 33 = 1 := by kernel_rfl
theorem cells_rat : Tryz.prog.cellsOf 35 = 3 := by kernel_rfl
theorem cells_op : Tryz.prog.cellsOf 69 = 7 := by kernel_rfl
theorem cells_tape : Tryz.prog.cellsOf 56 = 3 := by kernel_rfl
theorem cells_ops : Tryz.prog.cellsOf 54 = 1 := by kernel_rfl
theorem cells_ints : Tryz.prog.cellsOf 52 = 1 := by kernel_rfl
theorem three {l : List Value} (h : l.length = 3) : ∃ a b c, l = [a, b, c] := by
  match l, h with
  | [a, b, c], _ => exact ⟨a, b, c, rfl⟩
theorem seven {l : List Value} (h : l.length = 7) : ∃ a b c d e f g, l = [a, b, c, d, e, f, g] := by
  match l, h with
  | [a, b, c, d, e, f, g], _ => exact ⟨a, b, c, d, e, f, g, rfl⟩
theorem tr_words (h : Tr enc Tryz.prog W 33 [v]) : ∃ O, Ws (World.hp W) v O := by
  obtain ⟨xss, h1, h2⟩ := tr_rows Tryz.underlying33 cells_u32 (by decide) h
  obtain ⟨zs, rfl, h3⟩ := tr_ints (sz := 1) Tryz.underlying134 h1 h2
  refine ⟨zs.map Int.toNat, ⟨?_, fun x hx => ?_⟩⟩
  · have e : wcs (zs.map Int.toNat) = zs.map (fun z => [Value.int .u32 z]) := by
      unfold wcs
      rw [List.map_map]
      refine List.map_congr_left fun z hz => ?_
      have := bounds_u32 (h3 z hz)
      show [Value.int .u32 ((z.toNat : Nat) : Int)] = _
      rw [Int.toNat_of_nonneg this.1]
    rw [e]; exact h1
  · obtain ⟨z, hz, rfl⟩ := List.mem_map.1 hx
    have := bounds_u32 (h3 z hz)
    omega
theorem tr_rat (h : Tr enc Tryz.prog W 35 cs) : ∃ x : NV, cs = x.cells ∧ x.ok (World.hp W) := by
  obtain ⟨h1, h2⟩ := tr_struct Tryz.underlying35 h
  obtain ⟨a, b, c, rfl⟩ := three (by rw [h1]; exact cells_rat)
  have k0 := h2 0 _ rfl
  have k1 := h2 1 _ rfl
  have k2 := h2 2 _ rfl
  change Tr enc Tryz.prog W 4 (List.take (Tryz.prog.cellsOf 4) [a, b, c]) at k0
  change Tr enc Tryz.prog W 33 (List.take (Tryz.prog.cellsOf 33) [b, c]) at k1
  change Tr enc Tryz.prog W 33 (List.take (Tryz.prog.cellsOf 33) [c]) at k2
  rw [cells_bool] at k0
  rw [cells_u32s] at k1 k2
  obtain ⟨s, rfl⟩ := tr_bool Tryz.underlying4 k0
  obtain ⟨n, hn⟩ := tr_words k1
  obtain ⟨dd, hd⟩ := tr_words k2
  exact ⟨⟨s, n, dd, b, c⟩, rfl, hn, hd⟩
theorem tr_op (h : Tr enc Tryz.prog W 69 cs) : ∃ o : OpV, cs = o.cells ∧ o.ok (World.hp W) := by
  obtain ⟨h1, h2⟩ := tr_struct Tryz.underlying69 h
  obtain ⟨a, b, c, d, e, f, g, rfl⟩ := seven (by rw [h1]; exact cells_op)
  have k0 := h2 0 _ rfl
  have k1 := h2 1 _ rfl
  have k2 := h2 2 _ rfl
  have k3 := h2 3 _ rfl
  have k4 := h2 4 _ rfl
  change Tr enc Tryz.prog W 3 (List.take (Tryz.prog.cellsOf 3) [a, b, c, d, e, f, g]) at k0
  change Tr enc Tryz.prog W 3 (List.take (Tryz.prog.cellsOf 3) [b, c, d, e, f, g]) at k1
  change Tr enc Tryz.prog W 3 (List.take (Tryz.prog.cellsOf 3) [c, d, e, f, g]) at k2
  change Tr enc Tryz.prog W 3 (List.take (Tryz.prog.cellsOf 3) [d, e, f, g]) at k3
  change Tr enc Tryz.prog W 35 (List.take (Tryz.prog.cellsOf 35) [e, f, g]) at k4
  rw [cells_int] at k0 k1 k2 k3
  rw [cells_rat] at k4
  obtain ⟨z0, rfl, b0⟩ := tr_int Tryz.underlying3 k0
  obtain ⟨z1, rfl, b1⟩ := tr_int Tryz.underlying3 k1
  obtain ⟨z2, rfl, b2⟩ := tr_int Tryz.underlying3 k2
  obtain ⟨z3, rfl, b3⟩ := tr_int Tryz.underlying3 k3
  obtain ⟨x, hx, hn, hd⟩ := tr_rat k4
  obtain ⟨rfl, h5⟩ := List.cons.inj hx
  obtain ⟨rfl, h6⟩ := List.cons.inj h5
  obtain ⟨rfl, _⟩ := List.cons.inj h6
  exact ⟨⟨⟨z0, z1, z2, z3, x.neg, x.n, x.d⟩, x.vn, x.vd⟩, rfl, hn, hd⟩
theorem open_Tp (hval : Value.okWide Tryz.prog W .any base 56 v) (h : DataW.Trod enc Tryz.prog W 0 (fun _ => true) true 56 v d ps) : ∃ (t : TapeC) (vo vu : Value) (os : List OpV), v = .agg #[.int .i64 t.ins, vo, vu] ∧ TapeV (World.hp W) vo vu t os := by
  obtain ⟨cs, rfl, hh⟩ := tr_of_struct Tryz.underlying56 hval h
  obtain ⟨h1, h2⟩ := tr_struct Tryz.underlying56 hh
  obtain ⟨a, b, c, rfl⟩ := three (by rw [h1]; exact cells_tape)
  have k0 := h2 0 _ rfl
  have k1 := h2 1 _ rfl
  have k2 := h2 2 _ rfl
  change Tr enc Tryz.prog W 3 (List.take (Tryz.prog.cellsOf 3) [a, b, c]) at k0
  change Tr enc Tryz.prog W 54 (List.take (Tryz.prog.cellsOf 54) [b, c]) at k1
  change Tr enc Tryz.prog W 52 (List.take (Tryz.prog.cellsOf 52) [c]) at k2
  rw [cells_int] at k0
  rw [cells_ops] at k1
  rw [cells_ints] at k2
  obtain ⟨z0, rfl, b0⟩ := tr_int Tryz.underlying3 k0
  obtain ⟨xss, s1, s2⟩ := tr_rows (sz := 7) Tryz.underlying54 cells_op (by decide) k1
  obtain ⟨os, rfl, s3⟩ := rows_map (f := OpV.cells) (p := fun x => x.ok (World.hp W)) fun c hc => tr_op (s2 c hc)
  obtain ⟨yss, u1, u2⟩ := tr_rows (sz := 1) Tryz.underlying52 cells_int (by decide) k2
  obtain ⟨zs, rfl, u3⟩ := tr_ints (sz := 1) Tryz.underlying3 u1 u2
  exact ⟨⟨z0, os.map OpV.c, zs⟩, b, c, os, rfl, s1, s3, rfl, u1⟩
end
end Go.Proofs.YtfcmhcaggdakbaaGreatDoor
