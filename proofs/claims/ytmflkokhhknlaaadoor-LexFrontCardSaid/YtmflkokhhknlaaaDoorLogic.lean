/-
  The core of a walk by small lemmas, more: '||' and '&&' whose right side is a guarded list of operations: both ways meet behind the 'pick'. Nothing of the program stands here.
-/
import Derived.Test.YtmflkokhhknlaaaDoorCore
namespace Go.Tw
set_option linter.unusedVariables false
set_option linter.unusedSimpArgs false
set_option linter.unnecessarySimpa false
open Go Go.RowKit

/-- The operations up to the 'pick' over slot s, that pick, what stands behind it. -/
def splitPick (s : Nat) : List Oper → Option (List Oper × Oper × List Oper)
  | [] => none
  | o :: r => match o.op with
    | .pick (.tmp t) _ _ => match Nat.beq t s with
      | true => some ([], o, r)
      | false => match splitPick s r with
        | some (G, p, r') => some (o :: G, p, r')
        | none => none
    | _ => match splitPick s r with
      | some (G, p, r') => some (o :: G, p, r')
      | none => none
theorem splitPick_eq {s : Nat} : ∀ {l G : List Oper} {p : Oper} {r : List Oper}, splitPick s l = some (G, p, r) → l = G ++ p :: r
  | [], _, _, _, h => by cases h
  | o :: l, G, p, r, h => by
    have ih := @splitPick_eq s l
    have other : (match splitPick s l with | some (G, p, r') => some (o :: G, p, r') | none => none) = some (G, p, r) → o :: l = G ++ p :: r := by
      intro h
      split at h
      · rename_i G' p' r' h'
        cases h
        rw [ih h']; rfl
      · cases h
    simp only [splitPick] at h
    split at h
    · split at h
      · cases h; rfl
      · exact other h
    · exact other h

def memN (t : Nat) : List Nat → Bool
  | [] => false
  | d :: r => match Nat.beq t d with
    | true => true
    | false => memN t r
theorem memN_iff {t : Nat} : ∀ {l : List Nat}, memN t l = true → t ∈ l
  | [], h => by cases h
  | d :: r, h => by
    simp only [memN] at h
    split at h
    · rename_i hb; rw [Nat.eq_of_beq_eq_true hb]; exact List.mem_cons_self
    · exact List.mem_cons_of_mem _ (memN_iff h)

def sameBool : Bool → Bool → Bool
  | true, true | false, false => true
  | _, _ => false
theorem sameBool_eq {a b : Bool} (h : sameBool a b = true) : a = b := by cases a <;> cases b <;> first | rfl | cases h

/-- Every operation of G is passed over where slot s does not hold 'want': its guard asks for that, or for what such an operation would have left. 'ds': the slots that those passed over so far would have written. -/
def dead (ops : Array Oper) (s : Nat) (want : Bool) : List Nat → List Oper → Bool
  | _, [] => true
  | ds, o :: r => match o.guard with
    | none => false
    | some (j, wn) => match dstOf ops j with
      | none => false
      | some t => match (match Nat.beq t s with | true => sameBool wn want | false => memN t ds) with
        | false => false
        | true => match o.dst with
          | none => dead ops s want ds r
          | some d => match Nat.beq d s with
            | true => false
            | false => dead ops s want (d :: ds) r

/-- All slots that G writes lie above s. -/
def dstsGt (s : Nat) : List Oper → Bool
  | [] => true
  | o :: r => match o.dst with
    | none => dstsGt s r
    | some d => match Nat.blt s d with
      | true => dstsGt s r
      | false => false
/-- All slots that are known lie at s or below. -/
def keysLe (s : Nat) : List (Nat × Value) → Bool
  | [] => true
  | (i, _) :: r => match Nat.ble i s with
    | true => keysLe s r
    | false => false
theorem keysLe_look {s : Nat} : ∀ {E : Env}, keysLe s E = true → ∀ {i : Nat} {v : Value}, look E i = some v → i ≤ s
  | [], _, _, _, h => by cases h
  | (j, u) :: r, hk, i, v, h => by
    simp only [keysLe] at hk
    split at hk
    · rename_i hj
      by_cases hij : i = j
      · subst hij; simpa using hj
      · rw [look_cons_ne _ _ hij] at h; exact keysLe_look hk h
    · cases hk

def agree (s : Nat) (a a' : Act) : Prop := a'.tmps.size = a.tmps.size ∧ a'.defers = a.defers ∧ ∀ t, t ≤ s → a'.tmps.getD t undef = a.tmps.getD t undef
theorem agree.fits {s n : Nat} {D : List Deferred} {E : Env} {a a' : Act} (h : agree s a a') (hf : Fits n D E a) (hk : keysLe s E = true) : Fits n D E a' :=
  ⟨by rw [h.1, hf.size], by rw [h.2.1, hf.defs], fun i v hi => by rw [h.2.2 i (keysLe_look hk hi)]; exact hf.get i v hi⟩

section
variable {P : Program} {K K' : Act → World → Prop} {Q : Exit → Act → World → Prop} {n : Nat} {D : List Deferred} {E : Env} {S : World → Prop} {ops : Array Oper}

theorem upon_mono {o : Oper} {a : Act} {next next' : Act → World → Prop} {Q' : Exit → Act → World → Prop} {r : Result Next} (hn : ∀ a w, next a w → next' a w) (hQ : ∀ ch a w, Q (.panic ch) a w → Q' (.panic ch) a w) (ho : LetsOut Q → LetsOut Q')
    (h : o.upon P a next Q r) : o.upon P a next' Q' r := by
  cases r with
  | ok x w' =>
    cases x <;> simp only [Oper.upon] at h ⊢ <;> first
      | exact hn _ _ h
      | exact Calls.mono h (fun e w'' he => by cases e <;> first | exact hn _ _ he | exact hQ _ _ _ he | exact ho he)
      | exact Rows.mono h (fun _ _ he => hn _ _ he)
  | halt x w' => cases x <;> simp only [Oper.upon] at h ⊢ <;> exact hQ _ _ _ h

/-- A list in two parts. -/
theorem wpList_parts {l2 : List Oper} : ∀ (l1 : List Oper) (a : Act) (w : World), wpList P ops (Exit.then (wpList P ops Q l2) Q) l1 a w → wpList P ops Q (l1 ++ l2) a w
  | [], a, w, h => h
  | o :: l1, a, w, h => by
    rw [List.cons_append]
    unfold wpList at h ⊢
    split at h
    · rename_i hw
      rw [if_pos hw]
      rcases h with h | ⟨h1, h2⟩
      · exact .inl (upon_mono (fun a w => wpList_parts l1 a w) (fun _ _ _ q => q) (fun q => q) h)
      · exact .inr ⟨h1, h2⟩
    · rename_i hw
      rw [if_neg hw]
      exact wpList_parts l1 _ _ h

/-- G leaves the slots up to s alone. -/
theorem wpList_low {s : Nat} : ∀ (G : List Oper) (a : Act) (w : World), dstsGt s G = true → wpList P ops (Exit.then K Q) G a w → wpList P ops (Exit.then (fun a' w' => K a' w' ∧ ∀ t, t ≤ s → a'.tmps.getD t undef = a.tmps.getD t undef) Q) G a w
  | [], a, w, _, h => ⟨h, fun _ _ => rfl⟩
  | o :: G, a, w, hd, h => by
    have hput : ∀ v t, t ≤ s → (a.put o.dst v).tmps.getD t undef = a.tmps.getD t undef := by
      intro v t ht
      simp only [dstsGt] at hd
      cases hdst : o.dst with
      | none => rfl
      | some d =>
        rw [hdst] at hd
        simp only at hd
        split at hd
        · rename_i hlt
          rw [getD_put, if_neg (fun e => by have := e.1; simp at hlt; omega)]
        · cases hd
    have hd' : dstsGt s G = true := by
      simp only [dstsGt] at hd
      split at hd
      · exact hd
      · split at hd
        · exact hd
        · cases hd
    have step : ∀ (b : Act) w', (∀ t, t ≤ s → b.tmps.getD t undef = a.tmps.getD t undef) → wpList P ops (Exit.then K Q) G b w' → wpList P ops (Exit.then (fun a' w' => K a' w' ∧ ∀ t, t ≤ s → a'.tmps.getD t undef = a.tmps.getD t undef) Q) G b w' := by
      intro b w' hb hh
      have := wpList_low G b w' hd' hh
      have e : (fun a' w' => K a' w' ∧ ∀ t, t ≤ s → a'.tmps.getD t undef = b.tmps.getD t undef) = (fun (a' : Act) (w' : World) => K a' w' ∧ ∀ t, t ≤ s → a'.tmps.getD t undef = a.tmps.getD t undef) := by
        funext a' w'
        exact propext ⟨fun ⟨h1, h2⟩ => ⟨h1, fun t ht => (h2 t ht).trans (hb t ht)⟩, fun ⟨h1, h2⟩ => ⟨h1, fun t ht => (h2 t ht).trans (hb t ht).symm⟩⟩
      rwa [e] at this
    unfold wpList at h ⊢
    split at h
    · rename_i hw
      rw [if_pos hw]
      rcases h with h | ⟨h1, h2⟩
      · refine .inl ?_
        unfold Oper.wp at *
        generalize (execOp a.eval o).run P w = r at *
        cases r with
        | ok x w' =>
          cases x <;> simp only [Oper.upon] at h ⊢
          case value v => exact step _ _ (hput v) h
          case skip => exact step _ _ (hput undef) h
          case defer d => exact step _ _ (fun t ht => by have := hput undef t ht; cases hh : o.dst <;> simpa [Act.put, hh] using this) h
          case enter f args => exact Calls.mono h (fun e w'' he => by cases e <;> first | exact step _ _ (hput _) he | exact he)
          case row r args => exact Rows.mono h (fun v w'' he => step _ _ (hput v) he)
        | halt x w' => cases x <;> simp only [Oper.upon] at h ⊢ <;> exact h
      · exact .inr ⟨h1, h2⟩
    · rename_i hw
      rw [if_neg hw]
      exact step _ _ (hput undef) h

/-- G is passed over as a whole. -/
theorem wpList_dead {s : Nat} {b : Bool} {l2 : List Oper} : ∀ (G : List Oper) (ds : List Nat) (a : Act) (w : World), dead ops s (!b) ds G = true → dstsGt s G = true → a.tmps.getD s undef = .bool b → (∀ t, t ∈ ds → a.tmps.getD t undef = undef) →
    (∀ a', agree s a a' → wpList P ops Q l2 a' w) → wpList P ops Q (G ++ l2) a w
  | [], ds, a, w, _, _, _, _, h => h a ⟨rfl, rfl, fun _ _ => rfl⟩
  | o :: G, ds, a, w, hD, hG, hs, hds, h => by
    simp only [dead] at hD
    split at hD
    · cases hD
    · rename_i j wn hg
      split at hD
      · cases hD
      · rename_i t ht
        split at hD
        · cases hD
        · rename_i hok
          have hskip : Region.wanted o (yielded ops a.tmps) = false := by
            have hval : ∀ v, a.tmps.getD t undef = v → (∀ c, v = .bool c → c = !wn) → Region.wanted o (yielded ops a.tmps) = false := by
              intro v hv hc
              exact not_wanted_of (n := a.tmps.size) (D := a.defers) (E := [(t, v)]) (by rw [hg]; exact ⟨t, ht, v, look_cons_self _ _ _, hc⟩)
                ⟨rfl, rfl, fun i u hu => by
                  by_cases hi : i = t
                  · subst hi; rw [look_cons_self] at hu; rw [hv]; exact Option.some.inj hu
                  · rw [look_cons_ne _ _ hi] at hu; cases hu⟩
            split at hok
            · rename_i hts
              have := Nat.eq_of_beq_eq_true hts
              subst this
              have hwn := sameBool_eq hok
              refine hval _ hs (fun c hc => ?_)
              cases hc
              rw [hwn]; simp
            · exact hval _ (hds t (memN_iff hok)) (fun c hc => by cases hc)
          rw [List.cons_append]
          unfold wpList
          rw [if_neg (by rw [hskip]; exact Bool.false_ne_true)]
          simp only [dstsGt] at hG
          cases hdst : o.dst with
          | none =>
            rw [hdst] at hD hG
            exact wpList_dead G ds a w hD hG hs hds h
          | some d =>
            rw [hdst] at hD hG
            simp only at hD hG
            split at hD
            · cases hD
            · rename_i hne
              split at hG
              · rename_i hlt
                have hlt' : s < d := by simpa using hlt
                refine wpList_dead G (d :: ds) _ w hD hG ?_ ?_ ?_
                · rw [getD_put, if_neg (fun e => by have := e.1; omega)]; exact hs
                · intro t' ht'
                  rw [getD_put]
                  split
                  · rfl
                  · rename_i hh
                    rcases List.mem_cons.1 ht' with e | e
                    · subst e
                      rw [Array.getD_eq_getD_getElem?, Array.getElem?_eq_none (by omega)]; rfl
                    · exact hds t' e
                · intro a' ha'
                  refine h a' ⟨by rw [ha'.1]; simp [Act.put], by rw [ha'.2.1]; rfl, fun t' ht' => ?_⟩
                  rw [ha'.2.2 t' ht', getD_put, if_neg (fun e => by have := e.1; omega)]
              · cases hG

theorem wpList_conv (hK : ∀ a w, K a w → K' a w) : ∀ (G : List Oper) (a : Act) (w : World), wpList P ops (Exit.then K Q) G a w → wpList P ops (Exit.then K' Q) G a w
  | [], a, w, h => hK a w h
  | o :: G, a, w, h => by
    unfold wpList at h ⊢
    split at h
    · rename_i hw
      rw [if_pos hw]
      rcases h with h | ⟨h1, h2⟩
      · exact .inl (upon_mono (fun a w => wpList_conv hK G a w) (fun _ _ _ q => q) (fun q => q) h)
      · exact .inr ⟨h1, h2⟩
    · rename_i hw
      rw [if_neg hw]
      exact wpList_conv hK G _ _ h

/-! the same, quietly -/
theorem wpQuiet_parts {C : World → Prop} {Kq : Act → Prop} {l2 : List Oper} : ∀ (l1 : List Oper) (a : Act), wpQuiet P ops C (wpQuiet P ops C Kq l2) l1 a → wpQuiet P ops C Kq (l1 ++ l2) a
  | [], a, h => h
  | o :: l1, a, h => by
    rw [List.cons_append]
    unfold wpQuiet at h ⊢
    split at h
    · rename_i hw
      rw [if_pos hw]
      exact Oper.quiet_mono (fun a => wpQuiet_parts l1 a) h
    · rename_i hw
      rw [if_neg hw]
      exact wpQuiet_parts l1 _ h
theorem wpQuiet_conv {C : World → Prop} {Kq Kq' : Act → Prop} (hK : ∀ a, Kq a → Kq' a) : ∀ (G : List Oper) (a : Act), wpQuiet P ops C Kq G a → wpQuiet P ops C Kq' G a
  | [], a, h => hK a h
  | o :: G, a, h => by
    unfold wpQuiet at h ⊢
    split at h
    · rename_i hw
      rw [if_pos hw]
      exact Oper.quiet_mono (fun a => wpQuiet_conv hK G a) h
    · rename_i hw
      rw [if_neg hw]
      exact wpQuiet_conv hK G _ h
theorem wpQuiet_low {C : World → Prop} {Kq : Act → Prop} {s : Nat} : ∀ (G : List Oper) (a : Act), dstsGt s G = true → wpQuiet P ops C Kq G a → wpQuiet P ops C (fun a' => Kq a' ∧ ∀ t, t ≤ s → a'.tmps.getD t undef = a.tmps.getD t undef) G a
  | [], a, _, h => ⟨h, fun _ _ => rfl⟩
  | o :: G, a, hd, h => by
    have hput : ∀ v t, t ≤ s → (a.put o.dst v).tmps.getD t undef = a.tmps.getD t undef := by
      intro v t ht
      simp only [dstsGt] at hd
      cases hdst : o.dst with
      | none => rfl
      | some d =>
        rw [hdst] at hd
        simp only at hd
        split at hd
        · rename_i hlt
          rw [getD_put, if_neg (fun e => by have := e.1; simp at hlt; omega)]
        · cases hd
    have hd' : dstsGt s G = true := by
      simp only [dstsGt] at hd
      split at hd
      · exact hd
      · split at hd
        · exact hd
        · cases hd
    have step : ∀ (b : Act), (∀ t, t ≤ s → b.tmps.getD t undef = a.tmps.getD t undef) → wpQuiet P ops C Kq G b → wpQuiet P ops C (fun a' => Kq a' ∧ ∀ t, t ≤ s → a'.tmps.getD t undef = a.tmps.getD t undef) G b := by
      intro b hb hh
      exact wpQuiet_conv (fun a' ⟨h1, h2⟩ => ⟨h1, fun t ht => (h2 t ht).trans (hb t ht)⟩) G b (wpQuiet_low G b hd' hh)
    unfold wpQuiet at h ⊢
    split at h
    · rename_i hw
      rw [if_pos hw]
      obtain ⟨v, h1, h2⟩ := h
      exact ⟨v, h1, step _ (hput v) h2⟩
    · rename_i hw
      rw [if_neg hw]
      exact step _ (hput undef) h
theorem wpQuiet_dead {C : World → Prop} {Kq : Act → Prop} {s : Nat} {b : Bool} {l2 : List Oper} : ∀ (G : List Oper) (ds : List Nat) (a : Act), dead ops s (!b) ds G = true → dstsGt s G = true → a.tmps.getD s undef = .bool b → (∀ t, t ∈ ds → a.tmps.getD t undef = undef) →
    (∀ a', agree s a a' → wpQuiet P ops C Kq l2 a') → wpQuiet P ops C Kq (G ++ l2) a
  | [], ds, a, _, _, _, _, h => h a ⟨rfl, rfl, fun _ _ => rfl⟩
  | o :: G, ds, a, hD, hG, hs, hds, h => by
    simp only [dead] at hD
    split at hD
    · cases hD
    · rename_i j wn hg
      split at hD
      · cases hD
      · rename_i t ht
        split at hD
        · cases hD
        · rename_i hok
          have hskip : Region.wanted o (yielded ops a.tmps) = false := by
            have hval : ∀ v, a.tmps.getD t undef = v → (∀ c, v = .bool c → c = !wn) → Region.wanted o (yielded ops a.tmps) = false := by
              intro v hv hc
              exact not_wanted_of (n := a.tmps.size) (D := a.defers) (E := [(t, v)]) (by rw [hg]; exact ⟨t, ht, v, look_cons_self _ _ _, hc⟩)
                ⟨rfl, rfl, fun i u hu => by
                  by_cases hi : i = t
                  · subst hi; rw [look_cons_self] at hu; rw [hv]; exact Option.some.inj hu
                  · rw [look_cons_ne _ _ hi] at hu; cases hu⟩
            split at hok
            · rename_i hts
              have := Nat.eq_of_beq_eq_true hts
              subst this
              have hwn := sameBool_eq hok
              refine hval _ hs (fun c hc => ?_)
              cases hc
              rw [hwn]; simp
            · exact hval _ (hds t (memN_iff hok)) (fun c hc => by cases hc)
          rw [List.cons_append]
          unfold wpQuiet
          rw [if_neg (by rw [hskip]; exact Bool.false_ne_true)]
          simp only [dstsGt] at hG
          cases hdst : o.dst with
          | none =>
            rw [hdst] at hD hG
            exact wpQuiet_dead G ds a hD hG hs hds h
          | some d =>
            rw [hdst] at hD hG
            simp only at hD hG
            split at hD
            · cases hD
            · rename_i hne
              split at hG
              · rename_i hlt
                have hlt' : s < d := by simpa using hlt
                refine wpQuiet_dead G (d :: ds) _ hD hG ?_ ?_ ?_
                · rw [getD_put, if_neg (fun e => by have := e.1; omega)]; exact hs
                · intro t' ht'
                  rw [getD_put]
                  split
                  · rfl
                  · rename_i hh
                    rcases List.mem_cons.1 ht' with e | e
                    · subst e
                      rw [Array.getD_eq_getD_getElem?, Array.getElem?_eq_none (by omega)]; rfl
                    · exact hds t' e
                · intro a' ha'
                  refine h a' ⟨by rw [ha'.1]; simp [Act.put], by rw [ha'.2.1]; rfl, fun t' ht' => ?_⟩
                  rw [ha'.2.2 t' ht', getD_put, if_neg (fun e => by have := e.1; omega)]
              · cases hG

/-- What the ways through a '||' or a '&&' bring: the right side's value, and a world of S. -/
structure Joins (x : Operand) (c : Bool) (S : World → Prop) (n : Nat) (D : List Deferred) (a : Act) (w : World) : Prop where
  world : S w
  val : a.eval x = .bool c
  size : a.tmps.size = n
  defs : a.defers = D
theorem joins {x : Operand} {c : Bool} (hx : ev E x = some (.bool c)) : TE (Exit.then (Joins x c S n D) Q) .normal n D E S := ⟨fun a w ha hw => ⟨hw, ha.ev hx, ha.size, ha.defs⟩⟩

section
variable {rest G rest' : List Oper} {s d : Nat} {c x : Operand} {b cc : Bool} {ty ty' : TypeId} {pos pos' : String} {aft aft' : Array Edge} {g g' : Option (Nat × Bool)}

/-- The common part: 'bad' is what of the left side alone decides. -/
theorem o_logic {qm : Bool} {bad : Bool} {oa ob : Operand} (hpick : ∀ a : Act, (if bad then a.eval oa else a.eval ob) = .bool bad ∧ (if bad then a.eval ob else a.eval oa) = a.eval x) {r : Bool} (hr1 : b = bad → r = bad) (hr2 : b = !bad → r = cc)
    (hg : Wants ops E g) (hs : Nat.blt s n = true) (hd : Nat.blt d n = true) (hc : ev E c = some (.bool b)) (hsplit : splitPick s rest = some (G, ⟨some d, .pick (.tmp s) oa ob, ty', pos', aft', g⟩, rest'))
    (hdead : dead ops s (!bad) [] G = true) (hgt : dstsGt s G = true) (hle : keysLe s E = true) (hg2 : Wants ops ((s, .bool b) :: E) g)
    (h1 : b = !bad → TL qm P ops (Exit.then (Joins x cc S n D) Q) G n D ((s, .bool b) :: E) S)
    (k : TL qm P ops Q rest' n D ((d, .bool r) :: (s, .bool b) :: E) S) :
    TL qm P ops Q (⟨some s, .move c, ty, pos, aft, g⟩ :: rest) n D E S := by
  refine o_rd hg hs (runs_pv (v := .bool b) (by simpa [pv] using hc)) ⟨?_⟩
  intro a w ha hw
  cases qm
  · show wpList _ _ _ _ _ _
    rw [splitPick_eq hsplit]
    have hle' : keysLe s ((s, .bool b) :: E) = true := by
      have hss : Nat.ble s s = true := by simp
      simp only [keysLe, hss]; exact hle
    -- the pick, in a frame where slot s still stands
    have pick : ∀ (a' : Act) (w' : World), Fits n D ((s, .bool b) :: E) a' → (b = !bad → a'.eval x = .bool cc) → S w' → wpList P ops Q (⟨some d, .pick (.tmp s) oa ob, ty', pos', aft', g⟩ :: rest') a' w' := by
      intro a' w' hf hx hS
      have hsv : a'.eval (.tmp s) = .bool b := hf.ev (x := .tmp s) (look_cons_self _ _ _)
      have hval : (if b then a'.eval oa else a'.eval ob) = .bool r := by
        have hp := hpick a'
        by_cases hb : b = bad
        · rw [hr1 hb, hb]; exact hp.1
        · have hb' : b = !bad := by cases b <;> cases bad <;> simp_all
          rw [hr2 hb', ← hx hb', ← hp.2, hb']
          cases bad <;> simp
      refine wpList_of_run (wanted_of hg2 hf) ?_
      unfold Oper.wp
      have hrun : (execOp a'.eval ⟨some d, .pick (.tmp s) oa ob, ty', pos', aft', g⟩).run P w' = .ok (.value (.bool r)) w' := by
        simp [execOp, hsv, asBool, hval]
      rw [hrun]
      exact k.out _ _ (hf.put hd _) hS
    by_cases hb : b = bad
    · subst hb
      refine wpList_dead G [] a w (by simpa using hdead) hgt (ha.get s _ (look_cons_self _ _ _)) (fun t ht => by cases ht) (fun a' ha' => ?_)
      exact pick a' w (ha'.fits ha hle') (fun e => by cases b <;> cases e) hw
    · have hb' : b = !bad := by cases b <;> cases bad <;> simp_all
      refine wpList_parts G a w ?_
      have h2 := wpList_low G a w hgt ((h1 hb').out a w ha hw)
      -- what the right side's way brings
      have conv : ∀ (a' : Act) (w' : World), (Joins x cc S n D a' w' ∧ ∀ t, t ≤ s → a'.tmps.getD t undef = a.tmps.getD t undef) → wpList P ops Q (⟨some d, .pick (.tmp s) oa ob, ty', pos', aft', g⟩ :: rest') a' w' := by
        rintro a' w' ⟨⟨hC, hx, hsz, hdf⟩, hlow⟩
        have hag : agree s a a' := ⟨by rw [hsz, ha.size], by rw [hdf, ha.defs], hlow⟩
        exact pick a' w' (hag.fits ha hle') (fun _ => hx) hC
      exact wpList_conv conv G a w h2
  · skip
    rw [splitPick_eq hsplit]
    have hle' : keysLe s ((s, .bool b) :: E) = true := by
      have hss : Nat.ble s s = true := by simp
      simp only [keysLe, hss]; exact hle
    have pick : ∀ (a' : Act), Fits n D ((s, .bool b) :: E) a' → (b = !bad → a'.eval x = .bool cc) → wpQuiet P ops S (fun a' => ∀ w', S w' → Q .normal a' w') (⟨some d, .pick (.tmp s) oa ob, ty', pos', aft', g⟩ :: rest') a' := by
      intro a' hf hx
      have hsv : a'.eval (.tmp s) = .bool b := hf.ev (x := .tmp s) (look_cons_self _ _ _)
      have hval : (if b then a'.eval oa else a'.eval ob) = .bool r := by
        have hp := hpick a'
        by_cases hb : b = bad
        · rw [hr1 hb, hb]; exact hp.1
        · have hb' : b = !bad := by cases b <;> cases bad <;> simp_all
          rw [hr2 hb', ← hx hb', ← hp.2, hb']
          cases bad <;> simp
      unfold wpQuiet
      rw [if_pos (wanted_of hg2 hf)]
      refine ⟨.bool r, fun w1 hw1 => ?_, k.out _ w (hf.put hd _) hw⟩
      have hrun : (execOp a'.eval ⟨some d, .pick (.tmp s) oa ob, ty', pos', aft', g⟩).run P w1 = .ok (.value (.bool r)) w1 := by
        simp [execOp, hsv, asBool, hval]
      unfold Oper.quietAt
      rw [hrun]
      exact ⟨rfl, rfl⟩
    show wpQuiet _ _ _ _ _ _
    by_cases hb : b = bad
    · subst hb
      refine wpQuiet_dead G [] a (by simpa using hdead) hgt (ha.get s _ (look_cons_self _ _ _)) (fun t ht => by cases ht) (fun a' ha' => ?_)
      exact pick a' (ha'.fits ha hle') (fun e => by cases b <;> cases e)
    · have hb' : b = !bad := by cases b <;> cases bad <;> simp_all
      refine wpQuiet_parts G a ?_
      have h2 := wpQuiet_low G a hgt ((h1 hb').out a w ha hw)
      refine wpQuiet_conv ?_ G a h2
      rintro a' ⟨hJ, hlow⟩
      have hJ' : Joins x cc S n D a' w := hJ w hw
      have hag : agree s a a' := ⟨by rw [hJ'.size, ha.size], by rw [hJ'.defs, ha.defs], hlow⟩
      exact pick a' (hag.fits ha hle') (fun _ => hJ'.val)
/-! '||' and '&&': the first operation behind the left side's copy is guarded by it -/
variable {d1 : Option Tmp} {op1 : Op} {ty1 : TypeId} {pos1 : String} {aft1 : Array Edge} {j : Nat}
theorem o_or {qm : Bool} (hg : Wants ops E g) (hg2 : Wants ops ((s, .bool b) :: E) g) (hs : Nat.blt s n = true) (hj : dstOf ops j = some s) (hd : Nat.blt d n = true) (hc : ev E c = some (.bool b)) (hsplit : splitPick s (⟨d1, op1, ty1, pos1, aft1, some (j, false)⟩ :: rest) = some (G, ⟨some d, .pick (.tmp s) (.const (.bool true)) x, ty', pos', aft', g⟩, rest'))
    (hdead : dead ops s false [] G = true) (hgt : dstsGt s G = true) (hle : keysLe s E = true)
    (h1 : b = false → TL qm P ops (Exit.then (Joins x cc S n D) Q) G n D ((s, .bool b) :: E) S)
    (k : TL qm P ops Q rest' n D ((d, .bool (b || cc)) :: (s, .bool b) :: E) S) :
    TL qm P ops Q (⟨some s, .move c, ty, pos, aft, g⟩ :: ⟨d1, op1, ty1, pos1, aft1, some (j, false)⟩ :: rest) n D E S :=
  o_logic (bad := true) (fun _ => ⟨rfl, rfl⟩) (fun h => by rw [h]; rfl) (fun h => by rw [h]; rfl) hg hs hd hc hsplit hdead hgt hle hg2 h1 k
theorem o_and {qm : Bool} (hg : Wants ops E g) (hg2 : Wants ops ((s, .bool b) :: E) g) (hs : Nat.blt s n = true) (hj : dstOf ops j = some s) (hd : Nat.blt d n = true) (hc : ev E c = some (.bool b)) (hsplit : splitPick s (⟨d1, op1, ty1, pos1, aft1, some (j, true)⟩ :: rest) = some (G, ⟨some d, .pick (.tmp s) x (.const (.bool false)), ty', pos', aft', g⟩, rest'))
    (hdead : dead ops s true [] G = true) (hgt : dstsGt s G = true) (hle : keysLe s E = true)
    (h1 : b = true → TL qm P ops (Exit.then (Joins x cc S n D) Q) G n D ((s, .bool b) :: E) S)
    (k : TL qm P ops Q rest' n D ((d, .bool (b && cc)) :: (s, .bool b) :: E) S) :
    TL qm P ops Q (⟨some s, .move c, ty, pos, aft, g⟩ :: ⟨d1, op1, ty1, pos1, aft1, some (j, true)⟩ :: rest) n D E S :=
  o_logic (bad := false) (fun _ => ⟨rfl, rfl⟩) (fun h => by rw [h]; rfl) (fun h => by rw [h]; rfl) hg hs hd hc hsplit hdead hgt hle hg2 h1 k
end
end
end Go.Tw
