/-
  ShowTells, part 5: the texts ShowW, Show4, Value, Value2, Ref1, Ref2, Ref3, Ref4, Ref5, Ref7, Ref8, RefP, RefR, RefL, RefL2, RefL3, RefL4, RefL5, RefL6, Tree9, RefH, Ref8b, RefB, RefW, RefX, RefH2, Law11, RefW2, ShowR, Map, Map2, Scope, Scope2, Scope3, Ref13, SameG, Scope4, Ref13b, Law13, Needs, Tree11 as one.
-/
import Derived.Test.YtfcmhcaggdakbaaGreatDoorQShowTellsD
import Derived.Lib.AppendIntMem
import Derived.Laws.Entries
import Derived.MapKept
set_option linter.unusedVariables false
set_option linter.unusedSimpArgs false
set_option linter.unnecessarySimpa false
set_option maxHeartbeats 1000000
namespace Go.Proofs.YtfcmhcaggdakbaaGreatDoor
open Go Go.Tw
def P10 (I : Hp) : Prop := ∃ T f, I 1 = some (.cells (Lib.pow10Tab.map fun z => Value.int .u64 z).toArray T f)
theorem P10.le {I I' : Hp} (h : P10 I) (hl : I.Le I') : P10 I' := by
  obtain ⟨T, f, h⟩ := h
  exact ⟨T, f, hl _ _ h⟩
theorem P10.tab {I : Hp} (h : P10 I) {w : World} (hw : I.In w) : Lib.TabIs Tryz.prog w "internal/strconv.uint64pow10" .u64 Lib.pow10Tab := by
  obtain ⟨T, f, h⟩ := h
  have hg : Tryz.prog.globalNamed "internal/strconv.uint64pow10" = some 1 := by kernel_rfl
  unfold Lib.TabIs World.var?
  rw [hg]
  show (match w.heap[1]? with
    | some (.cells cs _ _) => some cs
    | _ => none) = _
  rw [hw _ _ h]
theorem dec_digs (n : Nat) : Lib.decDigits n = (digs n).reverse.map UInt8.ofNat := by
  induction n using Nat.strongRecOn with
  | _ n ih =>
    by_cases h : n < 10
    · rw [Lib.decDigits, dif_pos h, digs, dif_pos h]; rfl
    · rw [Lib.decDigits, dif_neg h, digs, dif_neg h, ih (n / 10) (by omega)]
      simp
theorem dec_decS (n : Nat) : (⟨(Lib.decDigits n).toArray⟩ : ByteArray) = decS n := by
  have h := decS_list n
  rw [toList_data] at h
  rw [dec_digs, ← h]
theorem exp_text (e : Int) : txZ (expP e) = ⟨(Lib.itoa e).toArray⟩ := by
  have h1 : ∀ s : ByteArray, txZ [tk 1 s] = s := fun s => by show s ++ ByteArray.empty = s; rw [ByteArray.append_empty]
  unfold expP Lib.itoa
  by_cases he : e < 0
  · rw [if_pos he, if_pos he]
    show minusS ++ txZ [tk 1 (decS e.natAbs)] = _
    rw [h1, ← dec_decS]
    apply ByteArray.ext
    simp [minusS]
  · rw [if_neg he, if_neg he]
    show txZ [tk 1 (decS e.natAbs)] = _
    rw [h1, ← dec_decS, show e.natAbs = e.toNat by omega]
theorem itoa_any (e : Int) {I : Hp} (hP : P10 I) (he : -1000 ≤ e ∧ e ≤ 1000) : Fun Tryz.prog 93 [.int .i64 e] I [] (fun v _ _ => v = .string (txZ (expP e))) := by
  refine fun_below fun w hw => ?_;refine (Tryz.strconv_Itoa e (by omega) (by omega) w (hP.tab hw)).mono ?_;rintro x w' ⟨rfl, k, os, rfl⟩;exact ⟨_, rfl, by rw [exp_text], Lib.below_grow _ _ (Nat.le_refl _) k os⟩
def joinS : List ByteArray → ByteArray
  | [] => ⟨#[]⟩
  | s :: l => s ++ txZ (restP l).dropLast.dropLast
theorem rest_drop : ∀ (l : List ByteArray), restP l = (restP l).dropLast.dropLast ++ [tk 2 semiS, nl]
  | [] => rfl
  | s :: l => by
    have ih := rest_drop l
    have h2 : ∃ a b r, restP l = a :: b :: r := by
      cases l with
      | nil => exact ⟨_, _, _, rfl⟩
      | cons t l => exact ⟨_, _, _, rfl⟩
    obtain ⟨a, b, r, e⟩ := h2
    have e3 : (restP (s :: l)).dropLast.dropLast = tk 2 commaS :: gp :: tk 0 s :: (restP l).dropLast.dropLast := by
      rw [restP, e]
      cases r with
      | nil => rfl
      | cons c r => simp [List.dropLast]
    rw [e3, List.cons_append, List.cons_append, List.cons_append, ← ih]
    rfl
theorem names_text {key s : ByteArray} {l : List ByteArray} : txZ (namesP key (s :: l)) = key ++ (⟨#[32]⟩ ++ (joinS (s :: l) ++ ⟨#[59, 10]⟩)) := by
  show txZ (tk 0 key :: gp :: tk 0 s :: restP l) = _
  conv => lhs; rw [rest_drop l]
  simp only [txZ, txZ_app, joinS, ByteArray.append_assoc]
  rfl
theorem rest_tail : ∀ (l : List ByteArray), (txZ (restP l).dropLast.dropLast).data.toList = Lib.joinTail [44, 32] (l.map (·.data.toList))
  | [] => rfl
  | s :: l => by
    have ih := rest_tail l
    have h2 : ∃ a b r, restP l = a :: b :: r := by
      cases l with
      | nil => exact ⟨_, _, _, rfl⟩
      | cons t l => exact ⟨_, _, _, rfl⟩
    obtain ⟨a, b, r, e⟩ := h2
    have e3 : (restP (s :: l)).dropLast.dropLast = tk 2 commaS :: gp :: tk 0 s :: (restP l).dropLast.dropLast := by
      rw [restP, e]
      cases r with
      | nil => rfl
      | cons c r => simp [List.dropLast]
    rw [e3]
    show (commaS ++ (⟨#[32]⟩ ++ (s ++ txZ (restP l).dropLast.dropLast))).data.toList = _
    simp only [ByteArray.data_append, Array.toList_append, ih]
    simp [Lib.joinTail, commaS]
theorem join_text (s : ByteArray) (l : List ByteArray) : (⟨(Lib.join ((s :: l).map (·.data.toList)) [44, 32]).toArray⟩ : ByteArray) = joinS (s :: l) := by
  rw [List.map_cons, Lib.join_cons, ← rest_tail]
  apply ByteArray.ext
  simp [joinS, ByteArray.data_append]
theorem joins_size {l : List ByteArray} (h : NamesOk l) : (joinS l).size ≤ 42 * l.length := by
  cases l with
  | nil => decide
  | cons s l =>
    have h1 := rest_size l fun b hb => h b (List.mem_cons_of_mem _ hb)
    have h2 := (name_parts (h s List.mem_cons_self)).2.1
    rw [rest_drop l, tx_app] at h1
    have h3 : (txZ [tk 2 semiS, nl]).size = 2 := by decide
    show (s ++ txZ _).size ≤ _
    rw [ByteArray.size_append, List.length_cons]
    omega
theorem join_any (v : Value) (l : List ByteArray) {I : Hp} (h : Slc I 1 v (scs l)) (h0 : 1 ≤ l.length) (hs : (joinS l).size ≤ 1000000) : Fun Tryz.prog 53 [v, .string ⟨#[44, 32]⟩] I [] (fun v _ _ => v = .string (joinS l)) := by
  have hl := scs_len l
  obtain ⟨s, r, rfl⟩ : ∃ s r, l = s :: r := by
    cases l with
    | nil => simp at h0
    | cons s r => exact ⟨s, r, rfl⟩
  rcases h.shape with ⟨A, _, e⟩ | ⟨b, off, cap, rfl, hc⟩
  · rw [e] at hl; simp at hl
  rw [hl] at hc ⊢
  have hmx := h.most
  rw [hl] at hmx
  have hjt := join_text s r
  have hsz := congrArg ByteArray.size hjt
  change (Lib.join ((s :: r).map (·.data.toList)) [44, 32]).toArray.size = _ at hsz
  rw [List.size_toArray] at hsz
  have hlen : ∀ (y : ByteArray) (q : List ByteArray), q.length ≤ (txZ (restP q).dropLast.dropLast).size := fun y q => by
    have h1 : ∀ q : List ByteArray, q.length ≤ (Lib.joinTail [44, 32] (q.map (·.data.toList))).length := fun q => by
      induction q with
      | nil => exact Nat.zero_le _
      | cons t q ih =>
        have e : Lib.joinTail [44, 32] ((t :: q).map (·.data.toList)) = [44, 32] ++ t.data.toList ++ Lib.joinTail [44, 32] (q.map (·.data.toList)) := by simp [Lib.joinTail]
        rw [e, List.length_append, List.length_append, List.length_cons]
        show _ ≤ 2 + _ + _
        omega
    have h2 := h1 q
    rw [← rest_tail] at h2
    simpa using h2
  have hjs : (joinS (s :: r)).size = s.size + (txZ (restP r).dropLast.dropLast).size := ByteArray.size_append
  have hrl := hlen s r
  refine fun_below fun w hw => ?_
  have hcell : ∀ (j : Nat) x, (s :: r)[j]? = some x → w.cell? ⟨b, off + j, none⟩ = some (.string x) := fun j x hj => by
    have h1 := scs_at h hj
    rw [Nat.mul_one] at h1
    exact Hp.In.cell hw h1
  have hbk : b < w.heap.size := by
    have h1 := hcell 0 s rfl
    unfold World.cell? at h1
    split at h1
    · rename_i hb; exact (Array.getElem?_eq_some_iff.1 hb).1
    · cases h1
  refine (Tryz.strings_Join b off cap (s :: r) ⟨#[44, 32]⟩ w hcell hbk (by rw [List.length_cons]; omega) hc (by show (Lib.join _ [44, 32]).length ≤ _; omega)).mono ?_;rintro x w' ⟨rfl, hb⟩;exact ⟨_, rfl, congrArg Value.string hjt, hb⟩
theorem intFix_any (n : Nat) (va : Value) {I : Hp} (ha : Ws I va (natW n)) (hs : (natW n).length ≤ 100000) : Fun Tryz.prog 152 [.agg #[.bool false, va]] I [] (fun v I' _ => ∃ u, v = .agg #[.bool false, u] ∧ Ws I' u (natW n)) := by
  intro w hw
  refine enter1 _ Tryz.func152 rfl Tryz.ntmps152 rfl ?_ hw;refine sR ?_;refine o_box trivial rfl rfl rfl (fun b1 => ?_);refine o_alloc trivial rfl Tryz.zeroValue132 rfl (fun b2 => ?_);refine nS ?_;refine oF 0 Tryz.underlying132 Tryz.sizeOf4 ?_;refine oL Tryz.isAgg4 ?_;refine oF 1 Tryz.underlying132 Tryz.sizeOf33 ?_;refine oL Tryz.isAgg33 ?_;refine oI Tryz.call182 rfl (signed_any false va (natW n) ha (by omega)) ?_;rintro _ I1 hx1 ⟨u, rfl, hu⟩;refine oS Tryz.sizeOf132 ?_;refine nE ?_;refine retR rfl (.agg Tryz.isAgg132 Tryz.sizeOf132 rfl (by repeat constructor) rfl .nil) ?_;refine leaf hx1 (List.nil_sublist _) ⟨u, ?_, ?_⟩
  · rw [decide_eq_false (by rw [if_neg (by decide)]; omega)]; rfl
  · rw [if_neg (by decide), Int.natAbs_natCast, val_natW] at hu; exact hu
theorem wPrint_any (n : Nat) (va : Value) {I : Hp} (ha : Ws I va (natW n)) (hs : (natW n).length ≤ 100000) (hd : (digs n).length ≤ 40) : Fun Tryz.prog 126 [.agg #[.bool false, va]] I [] (fun v _ _ => v = .string (decS n)) := by
  have hfx := intFix_any n va ha hs
  intro w hw
  refine enter1 _ Tryz.func126 rfl Tryz.ntmps126 rfl ?_ hw;refine sR ?_;refine o_box trivial rfl rfl rfl (fun b1 => ?_);refine oV ?_;refine nS ?_;refine oA Tryz.isAgg132 Tryz.sizeOf132 ?_;refine oI Tryz.call152 rfl hfx ?_;rintro _ I1 hx1 ⟨u, rfl, hu⟩;refine oS Tryz.sizeOf132 ?_;refine nU ?_;refine oF 0 Tryz.underlying132 Tryz.sizeOf4 ?_;refine oL Tryz.isAgg4 ?_;refine nT ?_;refine c_cond_f rfl (by rfl) ?_;refine kS ?_;refine oF 1 Tryz.underlying132 Tryz.sizeOf33 ?_;refine oL Tryz.isAgg33 ?_;refine oQ Tryz.call130 rfl (decPrint_any _ _ hu (by omega)) ?_;refine oV ?_;refine nE ?_;refine ret1 rfl rfl ?_;refine leaf hx1 (List.nil_sublist _) (congrArg Value.string ?_); rw [val_natW]
theorem qPrint_any (q : Rat) (va vb : Value) {I : Hp} (ha : Ws I va (natW q.num.natAbs)) (hb : Ws I vb (natW q.den)) (hk : Few 3000 q) (h0 : 0 ≤ q.num) (h1 : (digs q.num.natAbs).length ≤ 40) (h2 : (digs q.den).length ≤ 40) : Fun Tryz.prog 92 [.agg #[.bool (decide (q.num < 0)), va, vb]] I [] (fun v _ _ => v = .string (ratS q)) := by
  have hneg : decide (q.num < 0) = false := decide_eq_false (by omega)
  have hln : (natW q.num.natAbs).length ≤ 3000 := natW_few hk.num (Nat.le_refl _)
  have hld : (natW q.den).length ≤ 3000 := natW_few hk.den (Nat.le_refl _)
  have hof := qof_any q va vb ha hb (hk.le (by decide))
  have hsn : (decS q.num.natAbs).size ≤ 40 := by rw [decS_size]; exact h1
  have hsd : (decS (val (natW q.den))).size ≤ 40 := by rw [val_natW, decS_size]; exact h2
  clear hk
  intro w hw
  refine enter1 _ Tryz.func92 rfl Tryz.ntmps92 rfl ?_ hw;refine sR ?_;refine o_box trivial rfl rfl rfl (fun b1 => ?_);refine oV ?_;refine nS ?_;refine oA Tryz.isAgg35 Tryz.sizeOf35 ?_;refine oI Tryz.call125 rfl hof ?_;rintro _ I1 hx1 ⟨u1, u2, rfl, hs1, hs2⟩;refine o_alloc trivial rfl Tryz.zeroValue177 rfl (fun b3 => ?_);refine oS Tryz.sizeOf177 ?_;refine nS ?_;refine oF 0 Tryz.underlying177 Tryz.sizeOf175 ?_;refine oA Tryz.isAgg175 Tryz.sizeOf175 ?_;refine oQ Tryz.call127 rfl (above_any q u1 u2 hs1 hs2) ?_
  rw [hneg]
  refine oQ Tryz.call126 rfl (wPrint_any q.num.natAbs _ hs1 (by omega) h1) ?_;refine oV ?_;refine oN (tC (cS (cS ?_)));refine h_beginB (m := 7) [.box b3 _] (by repeat constructor) (by kernel_rfl) rfl ?_;refine qT (i := 0) (qB 7 1) (Hp.Le.refl _) rfl rfl (oF 0 Tryz.underlying177 Tryz.sizeOf175 qF) ?_;refine qT (i := 1) (qB 7 3) (Hp.Le.refl _) rfl rfl (oF 0 Tryz.underlying175 Tryz.sizeOf35 qF) ?_;refine qT (i := 2) (qB 7 7) (Hp.Le.refl _) rfl rfl (oF 2 Tryz.underlying35 Tryz.sizeOf33 qF) ?_;refine qT (i := 3) (qB 7 15) (Hp.Le.refl _) rfl rfl (oL Tryz.isAgg33 qF) ?_;refine qO (i := 4) (qB 7 31) rfl ?_;refine oI Tryz.call129 rfl (natOf_any 1 (by decide)) ?_;rintro u3 I2 hx2 hs3;refine qM (hx2.le) ?_;refine qO (i := 5) (qB 7 63) rfl ?_;refine oQ Tryz.call128 rfl (natCmp_any _ _ _ _ (hs2.le hx2.le) hs3 (by omega) (natW_len_of (k := 1) (by decide) (by decide))) ?_;refine qM (hx2.le) ?_;refine qT (i := 6) (qB 7 127) (hx2.le) rfl rfl (oV qF) ?_;refine h_end (by kernel_rfl) ?_;refine tC ?_;refine cC rfl (fun h1 => ?_) (fun h1 => ?_)
  ·
   have f1 := h1;try simp only [bl] at f1
   refine sR ?_;iterate 2 refine oV ?_
   refine nF ?_;refine ret1 rfl rfl ?_;refine leaf (hx1.trans hx2 (Nat.le_refl _)) (List.nil_sublist _) (congrArg Value.string ?_)
   have hd : q.den = 1 := by
     rw [val_natW, val_natW] at f1
     unfold cmpZ at f1
     split at f1
     · omega
     · split at f1 <;> omega
   unfold ratS
   rw [if_pos hd]
  have f1 := h1;try simp only [bl] at f1
  refine kS ?_;refine oV ?_;refine o_cat trivial rfl rfl rfl (by first | omega | (simp only [ByteArray.size_append, lit_size, strOf_size, List.length_replicate, List.size_toArray, List.length_cons, List.length_nil]; omega) | (simp; omega)) ?_;refine oF 0 Tryz.underlying177 Tryz.sizeOf175 ?_;refine oF 0 Tryz.underlying175 Tryz.sizeOf35 ?_;refine oF 2 Tryz.underlying35 Tryz.sizeOf33 ?_;refine oL Tryz.isAgg33 ?_;refine oQ Tryz.call130 rfl (decPrint_any _ _ (hs2.le hx2.le) (by omega)) ?_;refine o_cat trivial rfl rfl rfl (by first | omega | (simp only [ByteArray.size_append, lit_size, strOf_size, List.length_replicate, List.size_toArray, List.length_cons, List.length_nil]; omega) | (simp; omega)) ?_;refine oV ?_;refine nE ?_;refine ret1 rfl rfl ?_;refine leaf (hx1.trans hx2 (Nat.le_refl _)) (List.nil_sublist _) (congrArg Value.string ?_)
  have hd : ¬ q.den = 1 := fun h => by
    rw [val_natW, val_natW, h] at f1
    exact f1 rfl
  unfold ratS
  rw [if_neg hd, val_natW]
theorem binds_any (k : Int) : PureC Tryz.prog 91 [.int .i64 k] (.int .i64 (bindZ k)) := by
  intro w
  refine enter1 _ Tryz.func91 rfl Tryz.ntmps91 rfl ?_ (S := fun w1 => w1 = w) rfl;refine sR ?_;refine oV ?_;refine nU ?_;refine oV ?_;refine oN (tC (cB (cS (sR ?_))));iterate 2 refine oV ?_
  refine nT ?_;refine cC rfl (fun h1 => ?_) (fun h1 => ?_)
  ·
   have f1 := h1;try simp only [bl] at f1
   refine cK (tC ?_);refine cC rfl (fun h2 => ?_) (fun h2 => ?_)
   ·
    have f2 := h2;try simp only [bl] at f2
    refine sR ?_;refine oV ?_;refine oN (tC (cT (blk_r (tR ?_))));refine ret1 rfl rfl ?_;refine fun _ hw => ⟨congrArg (Value.int .i64) ?_, hw⟩; unfold bindZ; (repeat' split) <;> omega
   have f2 := h2;try simp only [bl] at f2
   refine cS (sR ?_);iterate 2 refine oV ?_
   refine nT ?_;refine cC rfl (fun h3 => ?_) (fun h3 => ?_)
   ·
    have f3 := h3;try simp only [bl] at f3
    refine cK (tC ?_);refine cC rfl (fun h4 => ?_) (fun h4 => ?_)
    ·
     have f4 := h4;try simp only [bl] at f4
     refine sR ?_;refine oV ?_;refine oN (tC (cT (blk_r (tR ?_))));refine ret1 rfl rfl ?_;refine fun _ hw => ⟨congrArg (Value.int .i64) ?_, hw⟩; unfold bindZ; (repeat' split) <;> omega
    have f4 := h4;try simp only [bl] at f4
    refine sR ?_;iterate 2 refine oV ?_
    refine nT ?_;refine cC rfl (fun h5 => ?_) (fun h5 => ?_)
    ·
     have f5 := h5;try simp only [bl] at f5
     refine sR ?_;refine oV ?_;refine oN (tC (cT (blk_r (tR ?_))));refine ret1 rfl rfl ?_;refine fun _ hw => ⟨congrArg (Value.int .i64) ?_, hw⟩; unfold bindZ; (repeat' split) <;> omega
    have f5 := h5;try simp only [bl] at f5
    refine sR ?_;iterate 2 refine oV ?_
    refine nT ?_;refine cC rfl (fun h6 => ?_) (fun h6 => ?_)
    ·
     have f6 := h6;try simp only [bl] at f6
     refine sR ?_;refine oV ?_;refine oN (tC (cT (blk_r (tR ?_))));refine ret1 rfl rfl ?_;refine fun _ hw => ⟨congrArg (Value.int .i64) ?_, hw⟩; unfold bindZ; (repeat' split) <;> omega
    have f6 := h6;try simp only [bl] at f6
    refine cK (blk_n (tC (sR ?_)));refine oV ?_;refine nE ?_;refine ret1 rfl rfl ?_;refine fun _ hw => ⟨congrArg (Value.int .i64) ?_, hw⟩; unfold bindZ; (repeat' split) <;> omega
   have f3 := h3;try simp only [bl] at f3
   refine cR ?_;iterate 2 refine oV ?_
   refine nT ?_;refine cC rfl (fun h4 => ?_) (fun h4 => ?_)
   ·
    have f4 := h4;try simp only [bl] at f4
    refine sR ?_;refine oV ?_;refine oN (tC (cT (blk_r (tR ?_))));refine ret1 rfl rfl ?_;refine fun _ hw => ⟨congrArg (Value.int .i64) ?_, hw⟩; unfold bindZ; (repeat' split) <;> omega
   have f4 := h4;try simp only [bl] at f4
   refine sR ?_;iterate 2 refine oV ?_
   refine nT ?_;refine cC rfl (fun h5 => ?_) (fun h5 => ?_)
   ·
    have f5 := h5;try simp only [bl] at f5
    refine sR ?_;refine oV ?_;refine oN (tC (cT (blk_r (tR ?_))));refine ret1 rfl rfl ?_;refine fun _ hw => ⟨congrArg (Value.int .i64) ?_, hw⟩; unfold bindZ; (repeat' split) <;> omega
   have f5 := h5;try simp only [bl] at f5
   refine sR ?_;iterate 2 refine oV ?_
   refine nT ?_;refine cC rfl (fun h6 => ?_) (fun h6 => ?_)
   ·
    have f6 := h6;try simp only [bl] at f6
    refine sR ?_;refine oV ?_;refine oN (tC (cT (blk_r (tR ?_))));refine ret1 rfl rfl ?_;refine fun _ hw => ⟨congrArg (Value.int .i64) ?_, hw⟩; unfold bindZ; (repeat' split) <;> omega
   have f6 := h6;try simp only [bl] at f6
   refine cK (blk_n (tC (sR ?_)));refine oV ?_;refine nE ?_;refine ret1 rfl rfl ?_;refine fun _ hw => ⟨congrArg (Value.int .i64) ?_, hw⟩; unfold bindZ; (repeat' split) <;> omega
  have f1 := h1;try simp only [bl] at f1
  refine cR ?_;iterate 2 refine oV ?_
  refine nT ?_;refine cC rfl (fun h2 => ?_) (fun h2 => ?_)
  ·
   have f2 := h2;try simp only [bl] at f2
   refine sR ?_;refine oV ?_;refine oN (tC (cT (blk_r (tR ?_))));refine ret1 rfl rfl ?_;refine fun _ hw => ⟨congrArg (Value.int .i64) ?_, hw⟩; unfold bindZ; (repeat' split) <;> omega
  have f2 := h2;try simp only [bl] at f2
  refine cS (sR ?_);iterate 2 refine oV ?_
  refine nT ?_;refine cC rfl (fun h3 => ?_) (fun h3 => ?_)
  ·
   have f3 := h3;try simp only [bl] at f3
   refine cK (tC ?_);refine cC rfl (fun h4 => ?_) (fun h4 => ?_)
   ·
    have f4 := h4;try simp only [bl] at f4
    refine sR ?_;refine oV ?_;refine oN (tC (cT (blk_r (tR ?_))));refine ret1 rfl rfl ?_;refine fun _ hw => ⟨congrArg (Value.int .i64) ?_, hw⟩; unfold bindZ; (repeat' split) <;> omega
   have f4 := h4;try simp only [bl] at f4
   refine sR ?_;iterate 2 refine oV ?_
   refine nT ?_;refine cC rfl (fun h5 => ?_) (fun h5 => ?_)
   ·
    have f5 := h5;try simp only [bl] at f5
    refine sR ?_;refine oV ?_;refine oN (tC (cT (blk_r (tR ?_))));refine ret1 rfl rfl ?_;refine fun _ hw => ⟨congrArg (Value.int .i64) ?_, hw⟩; unfold bindZ; (repeat' split) <;> omega
   have f5 := h5;try simp only [bl] at f5
   refine sR ?_;iterate 2 refine oV ?_
   refine nT ?_;refine cC rfl (fun h6 => ?_) (fun h6 => ?_)
   ·
    have f6 := h6;try simp only [bl] at f6
    refine sR ?_;refine oV ?_;refine oN (tC (cT (blk_r (tR ?_))));refine ret1 rfl rfl ?_;refine fun _ hw => ⟨congrArg (Value.int .i64) ?_, hw⟩; unfold bindZ; (repeat' split) <;> omega
   have f6 := h6;try simp only [bl] at f6
   refine cK (blk_n (tC (sR ?_)));refine oV ?_;refine nE ?_;refine ret1 rfl rfl ?_;refine fun _ hw => ⟨congrArg (Value.int .i64) ?_, hw⟩; unfold bindZ; (repeat' split) <;> omega
  have f3 := h3;try simp only [bl] at f3
  refine cR ?_;iterate 2 refine oV ?_
  refine nT ?_;refine cC rfl (fun h4 => ?_) (fun h4 => ?_)
  ·
   have f4 := h4;try simp only [bl] at f4
   refine sR ?_;refine oV ?_;refine oN (tC (cT (blk_r (tR ?_))));refine ret1 rfl rfl ?_;refine fun _ hw => ⟨congrArg (Value.int .i64) ?_, hw⟩; unfold bindZ; (repeat' split) <;> omega
  have f4 := h4;try simp only [bl] at f4
  refine sR ?_;iterate 2 refine oV ?_
  refine nT ?_;refine cC rfl (fun h5 => ?_) (fun h5 => ?_)
  ·
   have f5 := h5;try simp only [bl] at f5
   refine sR ?_;refine oV ?_;refine oN (tC (cT (blk_r (tR ?_))));refine ret1 rfl rfl ?_;refine fun _ hw => ⟨congrArg (Value.int .i64) ?_, hw⟩; unfold bindZ; (repeat' split) <;> omega
  have f5 := h5;try simp only [bl] at f5
  refine sR ?_;iterate 2 refine oV ?_
  refine nT ?_;refine cC rfl (fun h6 => ?_) (fun h6 => ?_)
  ·
   have f6 := h6;try simp only [bl] at f6
   refine sR ?_;refine oV ?_;refine oN (tC (cT (blk_r (tR ?_))));refine ret1 rfl rfl ?_;refine fun _ hw => ⟨congrArg (Value.int .i64) ?_, hw⟩; unfold bindZ; (repeat' split) <;> omega
  have f6 := h6;try simp only [bl] at f6
  refine cK (blk_n (tC (sR ?_)));refine oV ?_;refine nE ?_;refine ret1 rfl rfl ?_;refine fun _ hw => ⟨congrArg (Value.int .i64) ?_, hw⟩; unfold bindZ; (repeat' split) <;> omega
def betw (s : ByteArray) (m : Bool) : ByteArray := if m then ⟨#[40]⟩ ++ s ++ ⟨#[41]⟩ else s
theorem between_any (s : ByteArray) (m : Bool) (hs : s.size ≤ 1000000) : PureC Tryz.prog 94 [.string s, .bool m] (.string (betw s m)) := by
  intro w
  refine enter2 _ Tryz.func94 rfl Tryz.ntmps94 rfl ?_ (S := fun w1 => w1 = w) rfl;refine sR ?_;refine oV ?_;refine nU ?_;refine oV ?_;refine nT ?_;refine cC rfl (fun h1 => ?_) (fun h1 => ?_)
  ·
   have f1 := h1;try simp only [bl] at f1
   refine sR ?_;refine oV ?_;iterate 2 refine o_cat trivial rfl rfl rfl (by first | omega | (simp only [ByteArray.size_append, lit_size, strOf_size, List.length_replicate, List.size_toArray, List.length_cons, List.length_nil]; omega) | (simp; omega)) ?_
   refine oV ?_;refine nF ?_;refine ret1 rfl rfl ?_;refine fun _ hw => ⟨congrArg Value.string ?_, hw⟩; unfold betw; rw [if_pos h1]
  have f1 := h1;try simp only [bl] at f1
  refine kS ?_;iterate 2 refine oV ?_
  refine nE ?_;refine ret1 rfl rfl ?_;refine fun _ hw => ⟨congrArg Value.string ?_, hw⟩; unfold betw; rw [h1]; rfl
theorem brk_text (m : Bool) (l : List Tok) : txZ (brk m l) = betw (txZ l) m := by
  cases m with
  | false => rfl
  | true =>
    show txZ (tk 2 lpar :: (l ++ [tk 2 rpar])) = _
    rw [txZ, txZ_app]
    show lpar ++ (txZ l ++ (rpar ++ ByteArray.empty)) = _
    rw [ByteArray.append_empty, ← ByteArray.append_assoc]
    rfl
theorem bind_kind {l : List NodeC} {i : Int} {x : Ex} (h : NodeAt l i x) {c : NodeC} (hc : l[i.toNat]? = some c) : bindZ c.kind = bindE x ∧ (c.kind = 0 → x = .ref c.name) ∧ (c.kind = 1 → ∃ q, x = .num q ∧ c = numN q) ∧
    (c.kind = 6 → ∃ y, x = .neg y ∧ NodeAt l c.a y ∧ y.n < x.n) ∧ (c.kind = 7 → ∃ y, x = .pow y c.e ∧ NodeAt l c.a y ∧ y.n < x.n) ∧
    (c.kind ≠ 0 → c.kind ≠ 1 → c.kind ≠ 6 → c.kind ≠ 7 → ∃ y z, x = .bin c.kind y z ∧ NodeAt l c.a y ∧ NodeAt l c.b z ∧ y.n < x.n ∧ z.n < x.n ∧ 2 ≤ c.kind ∧ c.kind ≤ 5) := by
  cases x with
  | ref t =>
    have h1 := h.ref
    rw [hc] at h1
    cases Option.some.inj h1
    exact ⟨rfl, fun _ => rfl, fun h => absurd h (by show ¬ (0 : Int) = 1; decide), fun h => absurd h (by show ¬ (0 : Int) = 6; decide), fun h => absurd h (by show ¬ (0 : Int) = 7; decide), fun h => absurd rfl h⟩
  | num q =>
    have h1 := h.num
    rw [hc] at h1
    cases Option.some.inj h1
    exact ⟨rfl, fun h => absurd h (by show ¬ (1 : Int) = 0; decide), fun _ => ⟨q, rfl, rfl⟩, fun h => absurd h (by show ¬ (1 : Int) = 6; decide), fun h => absurd h (by show ¬ (1 : Int) = 7; decide), fun _ h => absurd rfl h⟩
  | neg y =>
    obtain ⟨a, h1, h2, h3⟩ := h.neg
    rw [hc] at h1
    cases Option.some.inj h1
    exact ⟨rfl, fun h => absurd h (by show ¬ (6 : Int) = 0; decide), fun h => absurd h (by show ¬ (6 : Int) = 1; decide), fun _ => ⟨y, rfl, h2, by simp only [Ex.n]; omega⟩, fun h => absurd h (by show ¬ (6 : Int) = 7; decide), fun _ _ h => absurd rfl h⟩
  | pow y e =>
    obtain ⟨a, h1, h2, h3⟩ := h.pow
    rw [hc] at h1
    cases Option.some.inj h1
    exact ⟨rfl, fun h => absurd h (by show ¬ (7 : Int) = 0; decide), fun h => absurd h (by show ¬ (7 : Int) = 1; decide), fun h => absurd h (by show ¬ (7 : Int) = 6; decide), fun _ => ⟨y, rfl, h2, by simp only [Ex.n]; omega⟩, fun _ _ _ h => absurd rfl h⟩
  | bin k y z =>
    obtain ⟨a, b, h1, h2, h3, _, _⟩ := h.bin
    have hk := h.ok
    rw [hc] at h1
    cases Option.some.inj h1
    obtain ⟨k2, k5, _, _⟩ := hk
    refine ⟨?_, fun h => ?_, fun h => ?_, fun h => ?_, fun h => ?_, fun _ _ _ _ => ⟨y, z, rfl, h2, h3, by simp only [Ex.n]; omega, by simp only [Ex.n]; omega, k2, k5⟩⟩
    · show bindZ k = if 4 ≤ k then 2 else 1
      unfold bindZ
      (repeat' split) <;> omega
    · change k = 0 at h; omega
    · change k = 1 at h; omega
    · change k = 6 at h; omega
    · change k = 7 at h; omega
theorem part_size {x : Ex} (h : x.ok) (m : Int) : (txZ (partP x m)).size ≤ 81 * x.n + 2 := by
  have h1 := brk_size (decide (bindE x < m)) (shP x)
  have h2 := sh_size x h
  unfold partP
  omega
theorem tx_one (t : Tok) (r : List Tok) : txZ (t :: r) = t.text ++ txZ r := rfl
theorem sign_cut {k : Int} (h : 2 ≤ k ∧ k ≤ 5) : (⟨#[43, 45, 42, 47]⟩ : ByteArray).extract (k - 2).toNat (k - 2 + 1).toNat = signS k := by
  rcases (show k = 2 ∨ k = 3 ∨ k = 4 ∨ k = 5 by omega) with rfl | rfl | rfl | rfl <;> kernel_rfl
theorem few_words {q : Rat} {k : Nat} (h1 : (natW q.num.natAbs).length ≤ k) (h2 : (natW q.den).length ≤ k) : Few k q := by
  have k1 := val_lt (Wds_natW q.num.natAbs)
  have k2 := val_lt (Wds_natW q.den)
  rw [val_natW] at k1 k2
  exact ⟨Nat.lt_of_lt_of_le k1 (Nat.pow_le_pow_right (by decide) h1), Nat.lt_of_lt_of_le k2 (Nat.pow_le_pow_right (by decide) h2)⟩
theorem shNode_any (va : Value) (ns : List NodeV) {I : Hp} (hsa : Slc I 8 va (nds ns)) (hok : ∀ o ∈ ns, o.ok I) (hf : ∀ o ∈ ns, o.c.few 3000) (hn : ns.length ≤ 1000) (hP : P10 I) (b2 b3 : Nat) {T2 T3 : TypeId} {z2 z3 : Nat × Nat}
    (hB2 : I b2 = some (.cells #[va] T2 z2)) (hB3 : I b3 = some (.cells #[.func (.func 90) ([] : List Value).toArray [Value.pointer (some ⟨b2, 0, none⟩), Value.pointer (some ⟨b3, 0, none⟩)].toArray] T3 z3)) : ∀ (N : Nat) (x : Ex), x.n ≤ N → ∀ (i least : Int), NodeAt (ns.map NodeV.c) i x → -10 ≤ least → least ≤ 10 →
    Fun Tryz.prog 90 [.int .i64 i, .int .i64 least, .pointer (some ⟨b2, 0, none⟩), .pointer (some ⟨b3, 0, none⟩)] I [] (fun v _ _ => v = .string (txZ (partP x least)))
  | 0, x, hx, _, _, _, _, _ => absurd hx (by have := x.n_pos; omega)
  | N + 1, x, hx, i, least, hi, hl1, hl2 => by
    have ih := shNode_any va ns hsa hok hf hn hP b2 b3 hB2 hB3 N
    have hln := nds_len ns
    have hin := hi.in_
    rw [List.length_map] at hin
    have hfew := hi.few
    rw [List.length_map] at hfew
    obtain ⟨k, rfl⟩ : ∃ k : Nat, i = k := ⟨i.toNat, by omega⟩
    obtain ⟨o, ho⟩ : ∃ o, ns[k]? = some o := ⟨ns[k]'(by omega), List.getElem?_eq_getElem (by omega)⟩
    have hom := List.mem_of_getElem? ho
    have hw1 : Ws I o.vn o.c.n := (hok o hom).1
    have hw2 : Ws I o.vd o.c.d := (hok o hom).2
    obtain ⟨e0, e1, e2, e3, e4, e5⟩ := bind_kind hi (c := o.c) (by rw [Int.toNat_natCast, List.getElem?_map, ho]; rfl)
    have hbe := bindE_pos x
    have hbz : bindZ o.c.kind ≤ 5 := by unfold bindZ; (repeat' split) <;> omega
    have hxs := sh_size x hi.ok
    have hpart : txZ (partP x least) = betw (txZ (shP x)) (decide (bindZ o.c.kind < least)) := by rw [e0]; exact brk_text _ _
    intro w hw
    refine enter4 _ Tryz.func90 rfl Tryz.ntmps90 rfl ?_ hw;refine sR ?_;refine oV ?_;refine nS ?_;refine o_load1I trivial rfl Tryz.isAgg24 rfl (by unfold Hp.cell?; rw [hB2]; rfl) ?_;refine oV ?_;refine o_elem trivial rfl Tryz.underlying24 Tryz.sizeOf37 rfl (hsa) rfl (by omega) ?_;refine o_loadAI trivial rfl Tryz.isAgg37 Tryz.sizeOf37 rfl rfl (nds_at hsa ho) ?_;refine o_alloc trivial rfl Tryz.zeroValue37 rfl (fun b7 => ?_);refine oS Tryz.sizeOf37 ?_;refine nS ?_;refine oF 0 Tryz.underlying37 Tryz.sizeOf3 ?_;refine oL Tryz.isAgg3 ?_;refine oP trivial rfl Tryz.call91 rfl (binds_any o.c.kind) ?_;refine oV ?_;refine nS ?_;refine oV ?_;refine nU ?_;refine oF 0 Tryz.underlying37 Tryz.sizeOf3 ?_;refine oL Tryz.isAgg3 ?_;refine oN (tC (cB (sR ?_)));iterate 2 refine oV ?_
    refine nT ?_;refine cC rfl (fun h1 => ?_) (fun h1 => ?_)
    ·
     have f1 := h1;try simp only [bl] at f1
     have hT : txZ (shP x) = o.c.name := by
       rw [e1 f1]; show o.c.name ++ ByteArray.empty = _; rw [ByteArray.append_empty]
     refine cR ?_;refine oF 4 Tryz.underlying37 Tryz.sizeOf9 ?_;refine oL Tryz.isAgg9 ?_;refine oV ?_;refine oN (blk_n (tC (sR ?_)));iterate 4 refine oV ?_
     refine oP trivial rfl Tryz.call94 rfl (between_any _ _ (by rw [← hT]; omega)) ?_;refine oV ?_;refine nE ?_;refine ret1 rfl rfl ?_;refine leaf0 (congrArg Value.string ?_); rw [hpart, hT]
    have f1 := h1;try simp only [bl] at f1
    refine sR ?_;iterate 2 refine oV ?_
    refine nT ?_;refine cC rfl (fun h2 => ?_) (fun h2 => ?_)
    ·
     have f2 := h2;try simp only [bl] at f2
     obtain ⟨q, rfl, hc⟩ := e2 f2
     have hT : txZ (shP (.num q)) = ratS q := by show ratS q ++ ByteArray.empty = _; rw [ByteArray.append_empty]
     have hq : Fun Tryz.prog 92 [.agg #[.bool o.c.neg, o.vn, o.vd]] I [] (fun v _ _ => v = .string (ratS q)) := by
       rw [hc] at hw1 hw2 ⊢
       have hfo := hf o hom
       rw [hc] at hfo
       exact qPrint_any q o.vn o.vd hw1 hw2 (few_words hfo.1 hfo.2) hi.ok.1 hi.ok.2.1 hi.ok.2.2
     refine cR ?_;refine oF 5 Tryz.underlying37 Tryz.sizeOf35 ?_;refine oA Tryz.isAgg35 Tryz.sizeOf35 ?_;refine oQ Tryz.call92 rfl hq ?_;refine oV ?_;refine oN (blk_n (tC (sR ?_)));iterate 4 refine oV ?_
     refine oP trivial rfl Tryz.call94 rfl (between_any _ _ (by rw [← hT]; omega)) ?_;refine oV ?_;refine nE ?_;refine ret1 rfl rfl ?_;refine leaf0 (congrArg Value.string ?_); rw [hpart, hT]
    have f2 := h2;try simp only [bl] at f2
    refine sR ?_;iterate 2 refine oV ?_
    refine nT ?_;refine cC rfl (fun h3 => ?_) (fun h3 => ?_)
    ·
     have f3 := h3;try simp only [bl] at f3
     obtain ⟨y, rfl, hy, hyn⟩ := e3 f3
     have hb3 : bindZ o.c.kind = 3 := e0
     have hpy := part_size hy.ok (bindZ o.c.kind)
     have hT : txZ (shP (.neg y)) = ⟨#[45]⟩ ++ txZ (partP y (bindZ o.c.kind)) := by rw [hb3]; rfl
     refine cR ?_;refine o_load1I trivial rfl Tryz.isAgg146 rfl (by unfold Hp.cell?; rw [hB3]; rfl) ?_;refine oF 1 Tryz.underlying37 Tryz.sizeOf3 ?_;refine oL Tryz.isAgg3 ?_;refine oV ?_;refine o_callQT trivial rfl rfl Tryz.call90 rfl rfl (ih y (by omega) _ _ hy (by omega) (by omega)) ?_;refine o_cat trivial rfl rfl rfl (by first | omega | (simp only [ByteArray.size_append, lit_size, strOf_size, List.length_replicate, List.size_toArray, List.length_cons, List.length_nil]; omega) | (simp; omega)) ?_;refine oV ?_;refine oN (blk_n (tC (sR ?_)));iterate 4 refine oV ?_
     refine oP trivial rfl Tryz.call94 rfl (between_any _ _ (by rw [← hT]; omega)) ?_;refine oV ?_;refine nE ?_;refine ret1 rfl rfl ?_;refine leaf0 (congrArg Value.string ?_); rw [hpart, hT]
    have f3 := h3;try simp only [bl] at f3
    refine sR ?_;iterate 2 refine oV ?_
    refine nT ?_;refine cC rfl (fun h4 => ?_) (fun h4 => ?_)
    ·
     have f4 := h4;try simp only [bl] at f4
     obtain ⟨y, rfl, hy, hyn⟩ := e4 f4
     have hb4 : bindZ o.c.kind = 4 := e0
     have hpy := part_size hy.ok (bindZ o.c.kind + 1)
     have hes := exp_size hi.ok.2
     have hT : txZ (shP (.pow y o.c.e)) = txZ (partP y (bindZ o.c.kind + 1)) ++ ⟨#[94]⟩ ++ txZ (expP o.c.e) := by
       rw [hb4]
       show txZ (partP y 5 ++ tk 2 Go.Tw.caret :: expP o.c.e) = _
       rw [txZ_app, tx_one, ByteArray.append_assoc]
       rfl
     refine c_quiet (by kernel_rfl) (by kernel_rfl) (fun _ h => h.drawn) ?_;refine o_load1I trivial rfl Tryz.isAgg146 rfl (by unfold Hp.cell?; rw [hB3]; rfl) ?_;refine oF 1 Tryz.underlying37 Tryz.sizeOf3 ?_;refine oL Tryz.isAgg3 ?_;refine oV ?_
     first | (refine o_add trivial rfl rfl rfl ?_ ?_; (omega)) | refine oV ?_
     refine o_callQT trivial rfl rfl Tryz.call90 rfl rfl (ih y (by omega) _ _ hy (by omega) (by omega)) ?_;refine o_cat trivial rfl rfl rfl (by first | omega | (simp only [ByteArray.size_append, lit_size, strOf_size, List.length_replicate, List.size_toArray, List.length_cons, List.length_nil]; omega) | (simp; omega)) ?_;refine oF 3 Tryz.underlying37 Tryz.sizeOf3 ?_;refine oL Tryz.isAgg3 ?_;refine oQ Tryz.call93 rfl (itoa_any _ hP (by have := hi.ok.2; omega)) ?_;refine o_cat trivial rfl rfl rfl (by first | omega | (simp only [ByteArray.size_append, lit_size, strOf_size, List.length_replicate, List.size_toArray, List.length_cons, List.length_nil]; omega) | (simp; omega)) ?_;refine oV ?_;refine oN (blk_n (tC (sR ?_)));iterate 4 refine oV ?_
     refine oP trivial rfl Tryz.call94 rfl (between_any _ _ (by rw [← hT]; omega)) ?_;refine oV ?_;refine nE ?_;refine ret1 rfl rfl ?_;refine leaf0 (congrArg Value.string ?_); rw [hpart, hT]
    have f4 := h4;try simp only [bl] at f4
    obtain ⟨y, z, rfl, hy, hz, hyn, hzn, k2, k5⟩ := e5 (by omega) (by omega) (by omega) (by omega)
    have hb5 : bindZ o.c.kind = if 4 ≤ o.c.kind then 2 else 1 := e0
    have hpy := part_size hy.ok (bindZ o.c.kind)
    have hpz := part_size hz.ok (bindZ o.c.kind + 1)
    have hss : (signS o.c.kind).size = 1 := by unfold signS; split <;> (try rfl); split <;> (try rfl); split <;> rfl
    have hT : txZ (shP (.bin o.c.kind y z)) = txZ (partP y (bindZ o.c.kind)) ++ ⟨#[32]⟩ ++ signS o.c.kind ++ ⟨#[32]⟩ ++ txZ (partP z (bindZ o.c.kind + 1)) := by
      rw [hb5]
      show txZ (partP y _ ++ gp :: tk 2 (signS o.c.kind) :: gp :: partP z _) = _
      rw [txZ_app, tx_one, tx_one, tx_one]
      simp only [ByteArray.append_assoc]
      rfl
    refine c_quiet (by kernel_rfl) (by kernel_rfl) (fun _ h => h.drawn) ?_;refine o_load1I trivial rfl Tryz.isAgg146 rfl (by unfold Hp.cell?; rw [hB3]; rfl) ?_;refine oF 1 Tryz.underlying37 Tryz.sizeOf3 ?_;refine oL Tryz.isAgg3 ?_;refine oV ?_;refine o_callQT trivial rfl rfl Tryz.call90 rfl rfl (ih y (by omega) _ _ hy (by omega) (by omega)) ?_;refine o_cat trivial rfl rfl rfl (by first | omega | (simp only [ByteArray.size_append, lit_size, strOf_size, List.length_replicate, List.size_toArray, List.length_cons, List.length_nil]; omega) | (simp; omega)) ?_;refine oF 0 Tryz.underlying37 Tryz.sizeOf3 ?_;refine oL Tryz.isAgg3 ?_
    first | (refine o_sub trivial rfl rfl rfl ?_ ?_; (omega)) | refine oV ?_
    refine oF 0 Tryz.underlying37 Tryz.sizeOf3 ?_;refine oL Tryz.isAgg3 ?_
    first | (refine o_sub trivial rfl rfl rfl ?_ ?_; (omega)) | refine oV ?_
    first | (refine o_add trivial rfl rfl rfl ?_ ?_; (omega)) | refine oV ?_
    refine o_sliceS3 trivial rfl Tryz.underlying9 rfl rfl rfl (by have h4z : (ByteArray.mk #[43, 45, 42, 47]).size = 4 := rfl; omega) ?_
    rw [sign_cut ⟨k2, k5⟩]
    iterate 2 refine o_cat trivial rfl rfl rfl (by first | omega | (simp only [ByteArray.size_append, lit_size, strOf_size, List.length_replicate, List.size_toArray, List.length_cons, List.length_nil]; omega) | (simp; omega)) ?_
    refine o_load1I trivial rfl Tryz.isAgg146 rfl (by unfold Hp.cell?; rw [hB3]; rfl) ?_;refine oF 2 Tryz.underlying37 Tryz.sizeOf3 ?_;refine oL Tryz.isAgg3 ?_;refine oV ?_
    first | (refine o_add trivial rfl rfl rfl ?_ ?_; (omega)) | refine oV ?_
    refine o_callQT trivial rfl rfl Tryz.call90 rfl rfl (ih z (by omega) _ _ hz (by omega) (by omega)) ?_;refine o_cat trivial rfl rfl rfl (by first | omega | (simp only [ByteArray.size_append, lit_size, strOf_size, List.length_replicate, List.size_toArray, List.length_cons, List.length_nil]; omega) | (simp; omega)) ?_;refine oV ?_;refine oN (blk_n (tC (sR ?_)));iterate 4 refine oV ?_
    refine oP trivial rfl Tryz.call94 rfl (between_any _ _ (by rw [← hT]; omega)) ?_;refine oV ?_;refine nE ?_;refine ret1 rfl rfl ?_;refine leaf0 (congrArg Value.string ?_); rw [hpart, hT]
theorem shRoot_any (va : Value) (ns : List NodeV) {I : Hp} (hsa : Slc I 8 va (nds ns)) (hok : ∀ o ∈ ns, o.ok I) (hf : ∀ o ∈ ns, o.c.few 3000) (hn : ns.length ≤ 1000) (hP : P10 I) (x : Ex) (i : Int) (hi : NodeAt (ns.map NodeV.c) i x) :
    Fun Tryz.prog 54 [va, .int .i64 i] I [] (fun v _ _ => v = .string (txZ (shP x))) := by
  intro w hw
  refine enter2 _ Tryz.func54 rfl Tryz.ntmps54 rfl ?_ hw;refine sR ?_;refine o_box (cs := [_]) trivial rfl rfl (hsa.cells1).1 (fun b2 => ?_);refine oV ?_;refine nS ?_;refine o_alloc trivial rfl Tryz.zeroValue146 rfl (fun b5 => ?_);refine nS ?_;refine oV ?_;refine oS Tryz.sizeOf146 ?_;refine oN (tC (cS ?_));refine c_sealB (b := b5) (by repeat constructor) (fun I1 hx1 hb1 => ?_);refine c_sealB (b := b2) (by repeat constructor) (fun I2 hx2 hb2 => ?_)
  have hl2 := hx1.le.trans hx2.le
  have hw9 := shNode_any va ns (hsa.le hl2) (fun o ho => (hok o ho).le hl2) hf hn (hP.le hl2) b2 b5 hb2 (hx2.le _ _ hb1) x.n x (Nat.le_refl _) i 0 hi (by decide) (by decide)
  rw [partP_all x (by decide)] at hw9
  refine cR ?_;refine o_load1I trivial rfl Tryz.isAgg146 rfl (by unfold Hp.cell?; rw [hx2.le _ _ hb1]; rfl) ?_;refine oV ?_;refine o_callQT trivial rfl rfl Tryz.call90 rfl rfl hw9 ?_;refine oV ?_;refine nE ?_;refine ret1 rfl rfl ?_;refine leaf (hx1.trans hx2 (Nat.le_refl _)) (List.nil_sublist _) rfl
def ExprS (p : ProgC) (i : Int) (s : ByteArray) : Prop := ((tZ p).isSome = true ∧ 0 ≤ i ∧ i < p.all.length ∧ ∃ x, NodeAt p.all i x ∧ x.h ≤ 60 ∧ s = txZ (shP x)) ∨ (((tZ p).isSome = false ∨ i < 0 ∨ (p.all.length : Int) ≤ i) ∧ s = ⟨#[]⟩)
theorem expr_is (p : ProgC) (i : Int) : ∃ s, ExprS p i s := by
  cases ht : (tZ p).isSome with
  | false => exact ⟨_, .inr ⟨.inl ht, rfl⟩⟩
  | true =>
    by_cases h0 : 0 ≤ i ∧ i < p.all.length
    · obtain ⟨l, hl⟩ := tZ_iff.1 ht
      obtain ⟨y, h1, h2⟩ := hl.node h0.1 h0.2
      exact ⟨_, .inl ⟨ht, h0.1, h0.2, y, h1, h2, rfl⟩⟩
    · exact ⟨_, .inr ⟨.inr (by omega), rfl⟩⟩
def PrintS (p : ProgC) (s : ByteArray) : Prop := (∃ l, RightP p l ∧ s = textZ p l) ∨ ((tZ p).isSome = false ∧ s = ⟨#[]⟩)
theorem print_is (p : ProgC) : ∃ s, PrintS p s := by
  cases ht : (tZ p).isSome with
  | false => exact ⟨_, .inr ⟨ht, rfl⟩⟩
  | true =>
    obtain ⟨l, hl⟩ := tZ_iff.1 ht
    exact ⟨_, .inl ⟨l, hl, rfl⟩⟩
theorem showExpr_any (vi vl vo va : Value) (p : ProgC) (ns : List NodeV) (i : Int) (s : ByteArray) {I : Hp} (hp : ProgV I vi vl vo va p ns) (hf : ∀ o ∈ ns, o.c.few 3000) (hn : ns.length ≤ 1000) (hP : P10 I) (hs : ExprS p i s) :
    Fun Tryz.prog 25 [.agg #[vi, vl, vo, va], .int .i64 i] I [] (fun v _ _ => v = .string s) := by
  have hsi := hp.si
  have hsl := hp.sl
  have hso := hp.so
  have hsa := hp.sa
  have hla := nds_len ns
  have hal : p.all.length = ns.length := by rw [← hp.eq, List.length_map]
  intro w hw
  refine enter2 _ Tryz.func25 rfl Tryz.ntmps25 rfl ?_ hw;refine sR ?_;refine o_box trivial rfl rfl rfl (fun b2 => ?_);refine oV ?_;refine nU ?_;iterate 2 refine oV ?_
  refine' o_or trivial trivial rfl rfl rfl rfl rfl rfl rfl rfl (fun hb7 => ?_) ?_;rotate_left
  ·
   have fb7 := hb7
   try simp only [bl] at fb7
   refine gV hb7 ?_;refine gF hb7 3 Tryz.underlying26 Tryz.sizeOf24 ?_;refine gL hb7 Tryz.isAgg24 ?_;refine o_lenSlc (wS rfl rfl hb7) rfl Tryz.underlying24 rfl (hsa) ?_;refine gV hb7 ?_;refine oN ?_;exact joins rfl
  refine' o_or trivial trivial rfl rfl rfl rfl rfl rfl rfl rfl (fun hb14 => ?_) ?_;rotate_left
  ·
   have fb14 := hb14
   try simp only [bl] at fb14
   refine o_loadA (wS rfl rfl hb14) rfl Tryz.isAgg26 Tryz.sizeOf26 rfl (by repeat constructor) (by repeat constructor) ?_;refine o_callQ (wS rfl rfl hb14) rfl Tryz.call26 rfl (trRight_any vi vl vo va p ns hp (fun o ho => ⟨Nat.le_trans (hf o ho).1 (by decide), Nat.le_trans (hf o ho).2 (by decide)⟩)) ?_;refine gV hb14 ?_;refine oN ?_;exact joins rfl
  refine nT ?_;refine cC rfl (fun h1 => ?_) (fun h1 => ?_)
  ·
   have f1 := h1;try simp only [bl] at f1
   have hz : s = ⟨#[]⟩ := by
     rcases hs with ⟨t1, t2, t3, _⟩ | ⟨_, t⟩
     · exfalso
       rw [t1] at f1
       rw [hla] at f1
       rcases f1 with (f1 | f1) | f1
       · omega
       · omega
       · cases f1
     · exact t
   refine sR ?_;refine oV ?_;refine nF ?_;refine ret1 rfl rfl ?_;refine leaf0 ?_; rw [hz]
  have f1 := h1;try simp only [bl] at f1
  obtain ⟨x, hx, hxs⟩ : ∃ x, NodeAt p.all i x ∧ s = txZ (shP x) := by
    rcases hs with ⟨t1, t2, t3, x, hx, _, hxs⟩ | ⟨t, _⟩
    · exact ⟨x, hx, hxs⟩
    · exfalso
      rw [hla] at f1
      rcases t with t | t | t
      · rw [t] at f1; cases f1.2
      · omega
      · omega
  rw [← hp.eq] at hx
  refine kS ?_;refine oF 3 Tryz.underlying26 Tryz.sizeOf24 ?_;refine oL Tryz.isAgg24 ?_;refine oV ?_;refine oQ Tryz.call54 rfl (shRoot_any va ns hsa hp.ok hf hn hP x i hx) ?_;refine oV ?_;refine nE ?_;refine ret1 rfl rfl ?_;refine leaf0 ?_; rw [hxs]
theorem lets_app : ∀ (a b : List (ByteArray × Ex)), letsP (a ++ b) = letsP a ++ letsP b
  | [], b => rfl
  | x :: a, b => by rw [List.cons_append, letsP, letsP, lets_app a b, List.append_assoc]
theorem lets_take {l : List (ByteArray × Ex)} (i : Nat) : (txZ (letsP (l.take i))).size ≤ (txZ (letsP l)).size := by
  have h : (txZ (letsP (l.take i ++ l.drop i))).size = (txZ (letsP l)).size := by rw [List.take_append_drop]
  rw [lets_app, tx_app] at h
  omega
theorem lets_more {l : List (ByteArray × Ex)} {i : Nat} {s : ByteArray} {x : Ex} (h : l[i]? = some (s, x)) (hd : ByteArray) : hd ++ txZ (letsP (l.take (i + 1))) = (hd ++ txZ (letsP (l.take i))) ++ (⟨#[108, 101, 116, 32]⟩ ++ s ++ ⟨#[32, 61, 32]⟩ ++ txZ (shP x) ++ ⟨#[59, 10]⟩) := by
  rw [List.take_add_one, h, Option.toList_some, lets_app, txZ_app, ByteArray.append_assoc]
  congr 2
  show txZ (letP (s, x) ++ []) = _
  rw [List.append_nil]
  unfold letP
  rw [tx_one, tx_one, tx_one, tx_one, tx_one, tx_one, txZ_app]
  have e1 : (⟨#[108, 101, 116, 32]⟩ : ByteArray) = (tk 0 letS).text ++ gp.text := rfl
  have e2 : (⟨#[32, 61, 32]⟩ : ByteArray) = gp.text ++ ((tk 2 equalS).text ++ gp.text) := rfl
  have e3 : (⟨#[59, 10]⟩ : ByteArray) = txZ [tk 2 semiS, nl] := rfl
  rw [e1, e2, e3]
  simp only [ByteArray.append_assoc]
  rfl
theorem showPrint_any (vi vl vo va : Value) (p : ProgC) (ns : List NodeV) (s : ByteArray) {I : Hp} (hp : ProgV I vi vl vo va p ns) (hf : ∀ o ∈ ns, o.c.few 3000) (hn : ns.length ≤ 1000) (hP : P10 I) (hs : PrintS p s) :
    Fun Tryz.prog 23 [.agg #[vi, vl, vo, va]] I [] (fun v _ _ => v = .string s) := by
  have hsi := hp.si
  have hsl := hp.sl
  have hso := hp.so
  have hsa := hp.sa
  have hla := nds_len ns
  have hal : p.all.length = ns.length := by rw [← hp.eq, List.length_map]
  have hll : (p.lets.map LetC.cells).length = p.lets.length := List.length_map _
  intro w hw
  refine enter1 _ Tryz.func23 rfl Tryz.ntmps23 rfl ?_ hw;refine sR ?_;refine o_box trivial rfl rfl rfl (fun b1 => ?_);refine oV ?_;refine nU ?_;refine oA Tryz.isAgg26 Tryz.sizeOf26 ?_;refine oQ Tryz.call26 rfl (trRight_any vi vl vo va p ns hp (fun o ho => ⟨Nat.le_trans (hf o ho).1 (by decide), Nat.le_trans (hf o ho).2 (by decide)⟩)) ?_;refine oV ?_;refine nT ?_;refine cC rfl (fun h1 => ?_) (fun h1 => ?_)
  ·
   have f1 := h1;try simp only [bl] at f1
   have hz : s = ⟨#[]⟩ := by
     rcases hs with ⟨l, hl, _⟩ | ⟨_, t⟩
     · rw [tZ_right hl] at f1; cases f1
     · exact t
   refine sR ?_;refine oV ?_;refine nF ?_;refine ret1 rfl rfl ?_;refine leaf0 ?_; rw [hz]
  have f1 := h1;try simp only [bl] at f1
  obtain ⟨l, hl, hxs⟩ : ∃ l, RightP p l ∧ s = textZ p l := by
    rcases hs with h | ⟨t, _⟩
    · exact h
    · rw [t] at f1; cases f1
  have hts := text_size hl
  have hfw := hl.few.2
  have hpl : p.lets.length = l.length := by rw [hl.lets, laid_lets]
  have hji := joins_size hl.ins.1
  have hjo := joins_size hl.outs.1
  have hi40 := hl.ins.2.2
  have ho40 := hl.outs.2.2
  have hl40 := hl.few.1
  have hlz : (txZ (letsP l)).size ≤ 81 * p.all.length + 5500 := by
    unfold textZ progP at hts
    rw [tx_app, tx_app] at hts
    omega
  refine kS ?_;refine oF 0 Tryz.underlying26 Tryz.sizeOf22 ?_;refine oL Tryz.isAgg22 ?_;refine oQ Tryz.call53 rfl (join_any vi p.ins hsi hl.ins.2.1 (by omega)) ?_;refine o_cat trivial rfl rfl rfl (by show 3 + _ ≤ _; omega) ?_;refine o_cat trivial rfl rfl rfl (by rw [ByteArray.size_append]; show 3 + _ + 2 ≤ _; omega) ?_;refine oV ?_;refine oN (tC (cS (cS ?_)))
  obtain ⟨hd, hhd⟩ : ∃ hd : ByteArray, hd = ⟨#[105, 110, 32]⟩ ++ joinS p.ins ++ ⟨#[59, 10]⟩ := ⟨_, rfl⟩
  have hds : hd.size ≤ 2000 := by rw [hhd, ByteArray.size_append, ByteArray.size_append]; show 3 + _ + 2 ≤ _; omega
  have hd0 : hd = hd ++ txZ (letsP (l.take 0)) := by rw [List.take_zero]; show hd = hd ++ ByteArray.empty; rw [ByteArray.append_empty]
  rw [← hhd, hd0]
  refine cR ?_;refine oF 1 Tryz.underlying26 Tryz.sizeOf23 ?_;refine oL Tryz.isAgg23 ?_;refine o_lenSlc trivial rfl Tryz.underlying23 rfl (hsl) ?_;refine oV ?_;refine oN (tC (cB ?_));refine c_loop (ι := Nat) [1, 15, 16] (.cons rfl (.cons rfl (.cons rfl .nil))) (fun x => p.lets.length - x) (fun x E0 => (3, .string (hd ++ txZ (letsP (l.take x)))) :: (17, .int .i64 (x : Nat)) :: E0) (fun x => St w [] I [.box b1 (.cells #[vi, vl, vo, va] 26 (0, 0))]) (fun x => x ≤ p.lets.length) (0) (sC rfl (sC rfl (sC rfl (sC rfl (sC rfl sN))))) (fun _ h => h) (Nat.zero_le _) ?_;rintro i hi
  try dsimp only
  refine sR ?_;refine oV ?_;refine oN (tC (cS ?_));refine cC rfl (fun h2 => ?_) (fun h2 => ?_)
  ·
   have f2 := h2;try simp only [bl] at f2
   obtain ⟨c, hc⟩ : ∃ c, p.lets[i]? = some c := ⟨p.lets[i]'(by omega), List.getElem?_eq_getElem (by omega)⟩
   obtain ⟨x, hx1, hx2, hx3⟩ := hl.root hc
   rw [← hp.eq] at hx2
   have hxs2 := sh_size x hx2.ok
   have hxn := hx2.few
   rw [List.length_map] at hxn
   have hmore := lets_more hx1 hd
   have htk := lets_take (l := l) i
   have hnm : c.name.size ≤ 40 := (name_parts (hl.ok _ (List.mem_of_getElem? hx1)).1).2.1
   refine cK (tC (cS (cB (sR ?_))));refine o_elem trivial rfl Tryz.underlying23 Tryz.sizeOf39 rfl (hsl) rfl (by omega) ?_;refine o_loadAI trivial rfl Tryz.isAgg39 Tryz.sizeOf39 rfl rfl (lts_at hsl hc) ?_;refine o_alloc trivial rfl Tryz.zeroValue39 rfl (fun b5 => ?_);refine oS Tryz.sizeOf39 ?_;refine nT ?_;refine c_quiet (by kernel_rfl) (by kernel_rfl) (fun _ h => h.drawn) ?_;refine oV ?_;refine oF 0 Tryz.underlying39 Tryz.sizeOf9 ?_;refine oL Tryz.isAgg9 ?_;refine o_cat trivial rfl rfl rfl (by show 4 + _ ≤ _; omega) ?_;refine o_cat trivial rfl rfl rfl (by rw [ByteArray.size_append]; show 4 + _ + 3 ≤ _; omega) ?_;refine oF 3 Tryz.underlying26 Tryz.sizeOf24 ?_;refine oL Tryz.isAgg24 ?_;refine oF 1 Tryz.underlying39 Tryz.sizeOf3 ?_;refine oL Tryz.isAgg3 ?_;refine oQ Tryz.call54 rfl (shRoot_any va ns hsa hp.ok hf hn hP x c.root hx2) ?_;refine o_cat trivial rfl rfl rfl (by rw [ByteArray.size_append, ByteArray.size_append]; show 4 + _ + 3 + _ ≤ _; omega) ?_;refine o_cat trivial rfl rfl rfl (by rw [ByteArray.size_append, ByteArray.size_append, ByteArray.size_append]; show 4 + _ + 3 + _ + 2 ≤ _; omega) ?_;refine o_cat trivial rfl rfl rfl (by rw [ByteArray.size_append, ByteArray.size_append, ByteArray.size_append, ByteArray.size_append, ByteArray.size_append]; show _ + _ + (4 + _ + 3 + _ + 2) ≤ _; omega) ?_;refine oV ?_;refine oN (blk_n (tC (cR ?_)))
   first | (refine o_add trivial rfl rfl rfl ?_ ?_; (omega)) | refine oV ?_
   refine oV ?_;refine oN ?_;exact again (i + 1) (by rw [hmore]; exact (sC rfl (sC rfl (sC rfl (sC rfl (sC rfl sN)))))) (fun _ h => h.sort (by repeat constructor)) (by show p.lets.length - (i + 1) < p.lets.length - i; omega) (by show i + 1 ≤ _; omega)
  have f2 := h2;try simp only [bl] at f2
  have htk2 : l.take i = l := List.take_of_length_le (by omega)
  rw [htk2]
  refine c_exit (then_x (then_x (blk_eq rfl (tC (sR ?_)))));refine oV ?_;refine o_cat trivial rfl rfl rfl (by rw [ByteArray.size_append]; show _ + _ + 4 ≤ _; omega) ?_;refine oF 2 Tryz.underlying26 Tryz.sizeOf22 ?_;refine oL Tryz.isAgg22 ?_;refine oQ Tryz.call53 rfl (join_any vo p.outs hso hl.outs.2.1 (by omega)) ?_;refine o_cat trivial rfl rfl rfl (by rw [ByteArray.size_append, ByteArray.size_append]; show _ + _ + 4 + _ ≤ _; omega) ?_;refine o_cat trivial rfl rfl rfl (by rw [ByteArray.size_append, ByteArray.size_append, ByteArray.size_append]; show _ + _ + 4 + _ + 2 ≤ _; omega) ?_;refine oV ?_;refine nE ?_;refine ret1 rfl rfl ?_;refine leaf0 (congrArg Value.string ?_)
  rw [hxs, hhd]
  unfold textZ progP
  rw [txZ_app, txZ_app]
  have e1 : ∀ (key : ByteArray) (l : List ByteArray), 1 ≤ l.length → txZ (namesP key l) = key ++ (⟨#[32]⟩ ++ (joinS l ++ ⟨#[59, 10]⟩)) := fun key l h => by
    cases l with
    | nil => simp at h
    | cons s l => exact names_text
  rw [e1 _ _ hl.ins.2.1, e1 _ _ hl.outs.2.1]
  have e2 : (⟨#[105, 110, 32]⟩ : ByteArray) = inS ++ ⟨#[32]⟩ := rfl
  have e3 : (⟨#[111, 117, 116, 32]⟩ : ByteArray) = outS ++ ⟨#[32]⟩ := rfl
  rw [e2, e3]
  simp only [ByteArray.append_assoc]
theorem sum_bad {all : List NodeC} {L r : List Tok} (h : Ps .atom all L (.bad r)) (h1 : hdT L 2 minusS = false) : Ps .sum all L (.bad r) := .sum_bad (.product_bad (.fac h1 (.power_bad h)))
def _root_.Go.Tw.LSO.left : LSO → List Tok
  | .bad r => r
  | .ok _ _ r => r
end Go.Proofs.YtfcmhcaggdakbaaGreatDoor
namespace Go.Tw
open Go
structure RV where
  q : Rat
  vn : Value
  vd : Value
def RV.cells (r : RV) : List Value := [.bool (decide (r.q.num < 0)), r.vn, r.vd]
def RV.ok (I : Hp) (r : RV) : Prop := Ws I r.vn (natW r.q.num.natAbs) ∧ Ws I r.vd (natW r.q.den)
theorem RV.ok.le {I I' : Hp} {r : RV} (h : r.ok I) (hl : I.Le I') : r.ok I' := ⟨h.1.le hl, h.2.le hl⟩
def rcs (rs : List RV) : List (List Value) := rs.map RV.cells
end Go.Tw
namespace Go.Proofs.YtfcmhcaggdakbaaGreatDoor
open Go Go.Tw
end Go.Proofs.YtfcmhcaggdakbaaGreatDoor
namespace Go.Tw
open Go
structure NV where
  neg : Bool
  n : List Nat
  d : List Nat
  vn : Value
  vd : Value
def NV.cells (x : NV) : List Value := [.bool x.neg, x.vn, x.vd]
def NV.ok (I : Hp) (x : NV) : Prop := Ws I x.vn x.n ∧ Ws I x.vd x.d
def NV.q (x : NV) : Rat := lowQ x.neg (val x.n) (val x.d)
theorem NV.ok.le {I I' : Hp} {r : NV} (h : r.ok I) (hl : I.Le I') : r.ok I' := ⟨h.1.le hl, h.2.le hl⟩
structure PtV (I : Hp) (v : Value) (xs : List NV) : Prop where
  s : Slc I 3 v (xs.map NV.cells)
  ok : ∀ x ∈ xs, x.ok I
theorem PtV.le {I I' : Hp} {v : Value} {xs : List NV} (h : PtV I v xs) (hl : I.Le I') : PtV I' v xs := ⟨h.s.le hl, fun o ho => (h.ok o ho).le hl⟩
theorem NV.at_ {I : Hp} {v : Value} {xs : List NV} (h : PtV I v xs) {i : Nat} {x : NV} (hx : xs[i]? = some x) : ∀ k y, ([.bool x.neg, x.vn, x.vd] : List Value)[k]? = some y → I.cell? ⟨slcB v, slcO v + i * 3 + k, none⟩ = some y :=
  h.s.cells i _ (by rw [List.getElem?_map, hx]; rfl)
structure RsV (I : Hp) (v : Value) (l : List Rat) : Prop where
  out : ∃ rs : List RV, Slc I 3 v (rcs rs) ∧ (∀ r ∈ rs, r.ok I) ∧ rs.map RV.q = l
theorem RsV.le {I I' : Hp} {v : Value} {l : List Rat} (h : RsV I v l) (hl : I.Le I') : RsV I' v l := let ⟨rs, h1, h2, h3⟩ := h.out; ⟨rs, h1.le hl, fun r hr => (h2 r hr).le hl, h3⟩
end Go.Tw
namespace Go.Proofs.YtfcmhcaggdakbaaGreatDoor
open Go Go.Tw
end Go.Proofs.YtfcmhcaggdakbaaGreatDoor
namespace Go.Tw
open Go Go.RowKit
theorem wl_more {z : Int} {x : Nat} (O : List Nat) (h : z = x) : wl O ++ [.int .u32 z] = wl (O ++ [x]) := by subst h; simp [wl]
theorem take_more {A : List Nat} {i : Nat} (h : i < A.length) : A.take (i + 1) = A.take i ++ [dg A i] := by
  rw [List.take_add_one, dg_some h]; rfl
theorem eq_of_dg {A B : List Nat} (hl : A.length = B.length) (h : ∀ j, j < A.length → dg A j = dg B j) : A = B := by
  refine List.ext_getElem hl fun i h1 h2 => ?_
  have := h i h1
  rwa [dg_in h1, dg_in h2] at this
theorem cmp_lt {A B : List Nat} (hA : Wds A) (hB : Wds B) {i : Nat} (h : dg A i < dg B i) (he : ∀ t, i < t → dg A t = dg B t) : val A < val B := by
  have key : ∀ k, pre A (i + 1 + k) < pre B (i + 1 + k) := by
    intro k
    induction k with
    | zero =>
      have h1 := pre_lt hA i
      show pre A i + dg A i * 4294967296 ^ i < pre B i + dg B i * 4294967296 ^ i
      have h2 : (dg A i + 1) * 4294967296 ^ i ≤ dg B i * 4294967296 ^ i := Nat.mul_le_mul_right _ h
      rw [Nat.add_mul, Nat.one_mul] at h2
      omega
    | succ k ih =>
      show pre A (i + 1 + k) + dg A (i + 1 + k) * 4294967296 ^ (i + 1 + k) < pre B (i + 1 + k) + dg B (i + 1 + k) * 4294967296 ^ (i + 1 + k)
      rw [he (i + 1 + k) (by omega)]
      omega
  have h1 := key (A.length + B.length)
  rwa [pre_out (by omega), pre_out (by omega)] at h1
theorem val_same {A B : List Nat} (he : ∀ t, dg A t = dg B t) : val A = val B := by
  have h1 : pre A (A.length + B.length) = pre B (A.length + B.length) := pre_same fun j _ => he j
  rwa [pre_out (by omega), pre_out (by omega)] at h1
theorem val_more (O : List Nat) (x : Nat) : val (O ++ [x]) = val O + 4294967296 ^ O.length * x := by
  rw [val_app, val_cons, val_nil, Nat.mul_zero, Nat.add_zero]
theorem Wds.more {O : List Nat} (h : Wds O) {x : Nat} (hx : x < 4294967296) : Wds (O ++ [x]) := h.app (Wds_cons hx Wds_nil)
section
variable {P : Program} {Q : Exit → Act → World → Prop} {n : Nat} {D : List Deferred} {E : Env} {ops : Array Oper} {w0 : World} {I : Hp} {B B' : List Item}
theorem leafWX {w : World} {e : TypeId} {u v : Value} {O : List Nat} {I I1 : Hp} {B : List Item} {R : Value → Hp → List Item → Prop} (he : Ext w.heap.size I I1) (hw : Wds O) (hm : O.length ≤ maxLen) (h : ∀ I', I1.Le I' → Ws I' u O → R v I' []) :
    ∀ w', St w [] I1 (.row u e 1 O.length (wl O) :: B) w' → Post w [] I R v w' := by
  rw [← wcs_flat]
  exact leafRowX he (wcs_len O) (wcs_one O) hm fun I' hl hs => h I' hl ⟨hs, hw⟩
theorem c_sealO {c : Code} {e : TypeId} {u : Value} (O : List Nat) (ht : Take (.row u e 1 O.length (wl O)) B B') (hw : Wds O) (hm : O.length ≤ maxLen)
    (k : ∀ I', Ext w0.heap.size I I' → Ws I' u O → TC P c Q n D E (St w0 [] I' B')) : TC P c Q n D E (St w0 [] I B) :=
  c_sealR (xss := wcs O) (by rw [wcs_flat]; exact ht) (wcs_len O) (wcs_one O) hm fun I' hx hs => k I' hx ⟨hs, hw⟩
end
end Go.Tw
namespace Go.Proofs.YtfcmhcaggdakbaaGreatDoor
open Go Go.Tw
theorem rLow_any (va : Value) (A : List Nat) {I : Hp} (ha : Ws I va A) (hs : A.length ≤ 35184372088600) : Fun Tryz.prog 147 [va] I [] (fun v _ _ => v = .int .i64 (lowL A : Nat)) := by
  intro w hw
  refine enter1 _ Tryz.func147 rfl Tryz.ntmps147 rfl ?_ hw;refine sR ?_;refine oV ?_;refine nS ?_;refine oV ?_;refine nU ?_;refine oV ?_;refine oN (tC (cB ?_));refine c_loop (ι := Nat) [0] (.cons rfl .nil) (fun i => A.length - i) (fun i E0 => (3, .int .i64 (low A i : Nat)) :: (4, .int .i64 (i : Nat)) :: E0) (fun i => St w [] I []) (fun i => i ≤ A.length) (0) (sC rfl (sC rfl (sC rfl sN))) (fun _ h => h) (Nat.zero_le _) ?_;rintro i hi
  try dsimp only
  refine cS (sR ?_);iterate 2 refine oV ?_
  refine o_lenW trivial rfl Tryz.underlying33 rfl (ha) ?_;refine oV ?_;refine nT ?_;refine cC rfl (fun h1 => ?_) (fun h1 => ?_)
  ·
   have f1 := h1;try simp only [bl] at f1
   refine cK (tC (cS (cB (sR ?_))));iterate 2 refine oV ?_
   refine o_elemW trivial rfl Tryz.underlying33 Tryz.sizeOf134 rfl (ha) rfl (by omega) ?_;refine o_load1I trivial rfl Tryz.isAgg134 rfl (ha.cellI (k := i) rfl (by omega)) ?_;refine oV ?_;refine nT ?_;refine cC rfl (fun h2 => ?_) (fun h2 => ?_)
   ·
    have f2 := h2;try simp only [bl] at f2
    have hlow : low A (i + 1) = i + 1 := by show (if dg A i = 0 then low A i else i + 1) = i + 1; rw [if_neg (by omega)]
    refine cR ?_;refine oV ?_
    first | (refine o_add trivial rfl rfl rfl ?_ ?_; (omega)) | refine oV ?_
    refine oV ?_;refine oN (blk_n (tC (cR ?_)));refine oV ?_
    first | (refine o_add trivial rfl rfl rfl ?_ ?_; (omega)) | refine oV ?_
    refine oV ?_;refine oN ?_;exact again (i + 1) (by rw [hlow]; exact (sC rfl (sC rfl (sC rfl sN)))) (fun _ h => h) (by show A.length - (i + 1) < A.length - i; omega) (by show i + 1 ≤ _; omega)
   have f2 := h2;try simp only [bl] at f2
   have hlow : low A (i + 1) = low A i := by show (if dg A i = 0 then low A i else i + 1) = low A i; rw [if_pos (by omega)]
   refine cK (blk_n (tC (cR ?_)));refine oV ?_
   first | (refine o_add trivial rfl rfl rfl ?_ ?_; (omega)) | refine oV ?_
   refine oV ?_;refine oN ?_;exact again (i + 1) (by rw [hlow]; exact (sC rfl (sC rfl (sC rfl sN)))) (fun _ h => h) (by show A.length - (i + 1) < A.length - i; omega) (by show i + 1 ≤ _; omega)
  have f1 := h1;try simp only [bl] at f1
  refine c_exit (then_x (then_x (blk_eq rfl (tC (sR ?_)))));iterate 2 refine oV ?_
  refine nE ?_;refine ret1 rfl rfl ?_
  have hie : i = A.length := by omega
  subst hie; exact leaf0 rfl
theorem rWords_any (va vb : Value) (A B : List Nat) {I : Hp} (ha : Ws I va A) (hb : Ws I vb B) : Fun Tryz.prog 85 [va, vb] I [] (fun v _ _ => v = .bool (decide (A = B))) := by
  have hs := ha.most
  unfold maxLen at hs
  intro w hw
  refine enter2 _ Tryz.func85 rfl Tryz.ntmps85 rfl ?_ hw;refine sR ?_;refine oV ?_;refine nU ?_;refine oV ?_;refine o_lenW trivial rfl Tryz.underlying33 rfl (ha) ?_;refine oV ?_;refine o_lenW trivial rfl Tryz.underlying33 rfl (hb) ?_;refine oV ?_;refine nT ?_;refine cC rfl (fun h1 => ?_) (fun h1 => ?_)
  ·
   have f1 := h1;try simp only [bl] at f1
   refine sR ?_;refine oV ?_;refine nF ?_;refine ret1 rfl rfl ?_;refine leaf0 (congrArg Value.bool ?_); rw [decide_eq_false]; intro e; exact f1 (by rw [e])
  have f1 := h1;try simp only [bl] at f1
  refine cK (tC (cS (sR ?_)));refine oV ?_;refine oN (tC (cB ?_));refine c_loop (ι := Nat) [0, 1] (.cons rfl (.cons rfl .nil)) (fun i => A.length - i) (fun i E0 => (5, .int .i64 (i : Nat)) :: E0) (fun i => St w [] I []) (fun i => i ≤ A.length ∧ ∀ j, j < i → dg A j = dg B j) (0) (sC rfl (sC rfl (sC rfl sN))) (fun _ h => h) (⟨Nat.zero_le _, fun j h => absurd h (Nat.not_lt_zero _)⟩) ?_;rintro i ⟨hi, he⟩
  try dsimp only
  refine cS (sR ?_);iterate 2 refine oV ?_
  refine o_lenW trivial rfl Tryz.underlying33 rfl (ha) ?_;refine oV ?_;refine nT ?_;refine cC rfl (fun h2 => ?_) (fun h2 => ?_)
  ·
   have f2 := h2;try simp only [bl] at f2
   refine cK (tC (cS (cB (cS ?_))));refine c_quiet (by kernel_rfl) (by kernel_rfl) (fun _ h => h.drawn) ?_;iterate 2 refine oV ?_
   refine o_elemW trivial rfl Tryz.underlying33 Tryz.sizeOf134 rfl (ha) rfl (by omega) ?_;refine o_load1I trivial rfl Tryz.isAgg134 rfl (ha.cellI (k := i) rfl (by omega)) ?_;iterate 2 refine oV ?_
   refine o_elemW trivial rfl Tryz.underlying33 Tryz.sizeOf134 rfl (hb) rfl (by omega) ?_;refine o_load1I trivial rfl Tryz.isAgg134 rfl (hb.cellI (k := i) rfl (by omega)) ?_;refine oV ?_;refine nT ?_;refine cC rfl (fun h3 => ?_) (fun h3 => ?_)
   ·
    have f3 := h3;try simp only [bl] at f3
    refine sR ?_;refine oV ?_;refine oN (tC (cT (blk_r (tR (tR (blk_r (tR ?_)))))));refine ret1 rfl rfl ?_;refine leaf0 (congrArg Value.bool ?_); rw [decide_eq_false]; intro e; exact f3 (by rw [e])
   have f3 := h3;try simp only [bl] at f3
   refine cK (blk_n (tC (cR ?_)));refine oV ?_
   first | (refine o_add trivial rfl rfl rfl ?_ ?_; (omega)) | refine oV ?_
   refine oV ?_;refine oN ?_
   exact again (i + 1) (sC rfl (sC rfl (sC rfl sN))) (fun _ h => h) (by show A.length - (i + 1) < A.length - i; omega) ⟨by show i + 1 ≤ _; omega, fun j hj => by
     by_cases hji : j = i
     · subst hji; omega
     · exact he j (by omega)⟩
  have f2 := h2;try simp only [bl] at f2
  refine c_exit (then_x (then_x (blk_eq rfl (tC (sR ?_)))));refine oV ?_;refine nE ?_;refine ret1 rfl rfl ?_;refine leaf0 (congrArg Value.bool ?_); rw [decide_eq_true]; exact eq_of_dg (by omega) fun j hj => he j (by omega)
theorem rTrim_any (va : Value) (A : List Nat) {I : Hp} (ha : Ws I va A) (hs : A.length ≤ 35184372088600) : Fun Tryz.prog 115 [va] I [] (fun v I' _ => Ws I' v (natW (val A))) := by
  have hle : lowL A ≤ A.length := low_le A _
  intro w hw
  refine enter1 _ Tryz.func115 rfl Tryz.ntmps115 rfl ?_ hw;refine sR ?_;refine oV ?_;refine nS ?_;refine oV ?_;refine oQ Tryz.call147 rfl (rLow_any _ _ ha hs) ?_;refine oV ?_;refine nS ?_;refine oV ?_;refine nU ?_;refine oV ?_;refine oN (tC (cB ?_));refine c_loop (ι := Nat × Value) [0, 3] (.cons rfl (.cons rfl .nil)) (fun x => lowL A - x.1) (fun x E0 => (4, x.2) :: (5, .int .i64 (x.1 : Nat)) :: E0) (fun x => St w [] I [.row x.2 134 1 x.1 (wl (A.take x.1))]) (fun x => x.1 ≤ lowL A) ((0, .slice none 0 0)) (sC rfl (sC rfl (sC rfl (sC rfl sN)))) (fun _ h => h.nilRow _ _) (Nat.zero_le _) ?_;rintro ⟨i, u⟩ hi
  try dsimp only
  simp only at hi
  refine cS (sR ?_);iterate 3 refine oV ?_
  refine nT ?_;refine cC rfl (fun h1 => ?_) (fun h1 => ?_)
  ·
   have f1 := h1;try simp only [bl] at f1
   refine cK (tC (cS (cB (cR ?_))));iterate 3 refine oV ?_
   refine o_elemW trivial rfl Tryz.underlying33 Tryz.sizeOf134 rfl (ha) rfl (by omega) ?_;refine o_load1I trivial rfl Tryz.isAgg134 rfl (ha.cellI (k := i) rfl (by omega)) ?_;refine oB Tryz.underlying33 Tryz.sizeOf134 Tryz.zeroValue134 fun b18 => ?_;refine oD Tryz.underlying33 elem134 fun v19 => ?_;refine oV ?_;refine oN (blk_n (tC (cR ?_)));refine oV ?_
   first | (refine o_add trivial rfl rfl rfl ?_ ?_; (omega)) | refine oV ?_
   refine oV ?_;refine oN ?_;exact again (i + 1, v19) (sC rfl (sC rfl (sC rfl (sC rfl sN)))) (fun _ h => by rw [take_more (by omega), ← wl_more _ rfl]; exact h.sort (by repeat constructor)) (by show lowL A - (i + 1) < lowL A - i; omega) (by show i + 1 ≤ _; omega)
  have f1 := h1;try simp only [bl] at f1
  refine c_exit (then_x (then_x (blk_eq rfl (tC (sR ?_)))));iterate 2 refine oV ?_
  refine nE ?_;refine ret1 rfl rfl ?_
  have hie : i = lowL A := by omega
  subst hie
  have hlen : (A.take (lowL A)).length = lowL A := by rw [List.length_take]; omega
  have hm := ha.most
  exact fun w' hw' => leafWX (O := A.take (lowL A)) (Ext.refl _ _) (ha.wds.take _) (by omega) (fun I' hl hs => by rw [← trim_eq ha.wds]; exact hs) w' (by rw [hlen]; exact hw')
theorem rAt_any (va : Value) (A : List Nat) (i : Int) (k : Nat) {I : Hp} (ha : Ws I va A) (hi : i = k) : Fun Tryz.prog 205 [va, .int .i64 i] I [] (fun v _ _ => v = .int .u64 (dg A k : Nat)) := by
  subst hi
  intro w hw
  refine enter2 _ Tryz.func205 rfl Tryz.ntmps205 rfl ?_ hw;refine sR ?_;refine oV ?_;refine nU ?_;iterate 2 refine oV ?_
  refine' o_or trivial trivial rfl rfl rfl rfl rfl rfl rfl rfl (fun hb7 => ?_) ?_;rotate_left
  ·
   have fb7 := hb7
   try simp only [bl] at fb7
   iterate 2 refine gV hb7 ?_
   refine o_lenW (wS rfl rfl hb7) rfl Tryz.underlying33 rfl (ha) ?_;refine gV hb7 ?_;refine oN ?_;exact joins rfl
  refine nT ?_;refine cC rfl (fun h1 => ?_) (fun h1 => ?_)
  ·
   have f1 := h1;try simp only [bl] at f1
   refine sR ?_;refine oV ?_;refine nF ?_;refine ret1 rfl rfl ?_;refine leaf0 (congrArg (Value.int .u64) ?_); rw [dg_out (by omega)]; rfl
  have f1 := h1;try simp only [bl] at f1
  refine kS ?_;iterate 2 refine oV ?_
  refine o_elemW trivial rfl Tryz.underlying33 Tryz.sizeOf134 rfl (ha) rfl (by omega) ?_;refine o_load1I trivial rfl Tryz.isAgg134 rfl (ha.cellI (k := k) rfl (by omega)) ?_
  have hdl := dg_lt ha.wds k
  first | refine o_convIn trivial rfl Tryz.underlying134 Tryz.underlying136 rfl (by rw [IntWalk.u64_in _ (by omega)]) ?_ | refine o_conv trivial rfl Tryz.underlying134 Tryz.underlying136 rfl ?_
  refine oV ?_;refine nE ?_;refine ret1 rfl rfl ?_;exact leaf0 rfl
theorem rOf_any (n : Nat) {I : Hp} (hn : n < 18446744073709551616) : Fun Tryz.prog 86 [.int .u64 (n : Int)] I [] (fun v I' _ => Ws I' v (natW n)) := by
  have hnl : (natW n).length ≤ 2 := natW_len_le (by rw [show (4294967296 : Nat) ^ 2 = 18446744073709551616 by decide]; exact hn)
  intro w hw
  refine enter1 _ Tryz.func86 rfl Tryz.ntmps86 rfl ?_ hw;refine sR ?_;refine oV ?_;refine nS ?_;refine oV ?_;refine oN (tC (cS (cB ?_)));refine c_loop (ι := Nat × List Nat × Value) [] .nil (fun x => x.1) (fun x E0 => (0, .int .u64 (x.1 : Nat)) :: (3, x.2.2) :: E0) (fun x => St w [] I [.row x.2.2 134 1 x.2.1.length (wl x.2.1)]) (fun x => x.2.1 ++ natW x.1 = natW n ∧ x.1 < 18446744073709551616) ((n, [], .slice none 0 0)) (sC rfl (sC rfl sN)) (fun _ h => h.nilRow _ _) (⟨rfl, hn⟩) ?_;rintro ⟨m, O, u⟩ ⟨hO, hm⟩
  try dsimp only
  simp only at hO hm; have hol : O.length ≤ 2 := by rw [← hO, List.length_append] at hnl; omega
  refine cS (sR ?_);iterate 2 refine oV ?_
  refine nT ?_;refine cC rfl (fun h1 => ?_) (fun h1 => ?_)
  ·
   have f1 := h1;try simp only [bl] at f1
   have hm0 : m ≠ 0 := by omega
   refine cK (tC (cB (sR ?_)));iterate 2 refine oV ?_
   refine o_rem trivial rfl rfl rfl (by omega) ?_;refine o_convIn trivial rfl Tryz.underlying136 Tryz.underlying134 rfl (by rw [IntWalk.u32_in _ (by omega)]) ?_;refine oB Tryz.underlying33 Tryz.sizeOf134 Tryz.zeroValue134 fun b10 => ?_;refine oD Tryz.underlying33 elem134 fun v11 => ?_;refine oV ?_;refine nR ?_;refine oV ?_;refine o_quo trivial rfl rfl rfl (by omega) (by first | rfl | rw [IntWalk.u64_in _ (by omega)]) ?_;refine oV ?_;refine oN (blk_n ?_);exact again (m / 4294967296, O ++ [m % 4294967296], v11) (sC rfl (sC rfl sN)) (fun _ h => by rw [← wl_more O (z := (m : Int) % 4294967296) (by omega), List.length_append]; exact h.sort (by repeat constructor)) (by show m / 4294967296 < m; omega) ⟨by show (O ++ [m % 4294967296]) ++ natW (m / 4294967296) = natW n; rw [← hO, natW_pos hm0]; simp, by show m / 4294967296 < _; omega⟩
  have f1 := h1;try simp only [bl] at f1
  refine c_exit (then_x (then_x (blk_eq rfl (tC (sR ?_)))));iterate 2 refine oV ?_
  refine nE ?_;refine ret1 rfl rfl ?_
  have hm0 : m = 0 := by omega
  subst hm0
  rw [natW_zero, List.append_nil] at hO
  exact leafWX (Ext.refl _ _) (by rw [hO]; exact Wds_natW n) (by unfold maxLen; omega) (fun I' hl hs => by rw [← hO]; exact hs)
theorem rCmp_any (va vb : Value) (A B : List Nat) {I : Hp} (ha : Ws I va A) (hb : Ws I vb B) (hs : A.length ≤ 35184372088600) (hs2 : B.length ≤ 35184372088600) : Fun Tryz.prog 179 [va, vb] I [] (fun v _ _ => v = .int .i64 (cmpZ (val A : Nat) (val B : Nat))) := by
  intro w hw
  refine enter2 _ Tryz.func179 rfl Tryz.ntmps179 rfl ?_ hw;refine sR ?_;refine oV ?_;refine nS ?_;refine oV ?_;refine o_lenW trivial rfl Tryz.underlying33 rfl (ha) ?_;refine oV ?_;refine o_lenW trivial rfl Tryz.underlying33 rfl (hb) ?_;refine o_max2 trivial rfl rfl rfl ?_;refine oV ?_;refine nU ?_;refine oV ?_
  first | (refine o_sub trivial rfl rfl rfl ?_ ?_; (omega)) | refine oV ?_
  refine oV ?_;refine oN (tC (cB ?_));refine c_loop (ι := Nat × Int) [0, 1] (.cons rfl (.cons rfl .nil)) (fun x => x.1) (fun x E0 => (6, .int .i64 x.2) :: E0) (fun x => St w [] I []) (fun x => x.2 = (x.1 : Int) - 1 ∧ x.1 ≤ 35184372088600 ∧ ∀ t, x.1 ≤ t → dg A t = dg B t) ((max A.length B.length, max (A.length : Int) (B.length : Int) - 1)) (sC rfl (sC rfl (sC rfl sN))) (fun _ h => h) (⟨by simp only; omega, by show max A.length B.length ≤ _; omega, fun t ht => by have h9 : max A.length B.length ≤ t := ht; rw [dg_out (by omega), dg_out (by omega)]⟩) ?_;rintro ⟨j, z⟩ ⟨hz, hj, he⟩
  try dsimp only
  simp only at hz hj he; subst hz
  refine cS (sR ?_);iterate 2 refine oV ?_
  refine nT ?_;refine cC rfl (fun h1 => ?_) (fun h1 => ?_)
  ·
   have f1 := h1;try simp only [bl] at f1
   refine cK (tC (cS (cB (cS (sR ?_)))));iterate 2 refine oV ?_
   refine oQ Tryz.call205 rfl (rAt_any _ A _ (j - 1) ha (by omega)) ?_;iterate 2 refine oV ?_
   refine oQ Tryz.call205 rfl (rAt_any _ B _ (j - 1) hb (by omega)) ?_;refine oV ?_;refine nT ?_;refine cC rfl (fun h2 => ?_) (fun h2 => ?_)
   ·
    have f2 := h2;try simp only [bl] at f2
    refine sR ?_;refine oV ?_;refine oN (tC (cT (tR (blk_r (tR (tR (blk_r (tR ?_))))))));refine ret1 rfl rfl ?_;refine leaf0 (congrArg (Value.int .i64) ?_)
    have := cmp_lt ha.wds hb.wds (i := j - 1) (by omega) (fun t ht => he t (by omega))
    rw [cmpZ_lt (by omega)]
   have f2 := h2;try simp only [bl] at f2
   refine kS ?_;iterate 2 refine oV ?_
   refine oQ Tryz.call205 rfl (rAt_any _ A _ (j - 1) ha (by omega)) ?_;iterate 2 refine oV ?_
   refine oQ Tryz.call205 rfl (rAt_any _ B _ (j - 1) hb (by omega)) ?_;refine oV ?_;refine nT ?_;refine cC rfl (fun h3 => ?_) (fun h3 => ?_)
   ·
    have f3 := h3;try simp only [bl] at f3
    refine sR ?_;refine oV ?_;refine oN (tC (cT (blk_r (tR (tR (blk_r (tR ?_)))))));refine ret1 rfl rfl ?_;refine leaf0 (congrArg (Value.int .i64) ?_)
    have := cmp_lt hb.wds ha.wds (i := j - 1) (by omega) (fun t ht => (he t (by omega)).symm)
    rw [cmpZ_gt (by omega)]
   have f3 := h3;try simp only [bl] at f3
   refine cK (blk_n (tC (cR ?_)));refine oV ?_
   first | (refine o_sub trivial rfl rfl rfl ?_ ?_; (omega)) | refine oV ?_
   refine oV ?_;refine oN ?_
   exact again (j - 1, (j : Int) - 1 - 1) (sC rfl (sC rfl (sC rfl sN))) (fun _ h => h) (by show j - 1 < j; omega) ⟨by simp only; omega, by show j - 1 ≤ _; omega, fun t ht => by
     have h9 : j - 1 ≤ t := ht
     by_cases htj : t = j - 1
     · subst htj; omega
     · exact he t (by omega)⟩
  have f1 := h1;try simp only [bl] at f1
  refine c_exit (then_x (then_x (blk_eq rfl (tC (sR ?_)))));refine oV ?_;refine nE ?_;refine ret1 rfl rfl ?_;refine leaf0 (congrArg (Value.int .i64) ?_)
  rw [val_same (A := A) (B := B) fun t => he t (by omega), cmpZ_self]
end Go.Proofs.YtfcmhcaggdakbaaGreatDoor
namespace Go.Tw
theorem pre_end {A : List Nat} {k : Nat} (h : A.length ≤ k) : pre A k = val A := pre_out h
theorem sum_step {O : List Nat} {T i s c c' a : Nat} (hl : O.length = i) (h : val O + 4294967296 ^ i * c = T) (hs : s + 4294967296 * c' = a + c) : val (O ++ [s]) + 4294967296 ^ (i + 1) * c' = T + a * 4294967296 ^ i := by
  rw [val_more, hl, pow_succ]
  have e1 : 4294967296 ^ i * 4294967296 * c' = 4294967296 ^ i * (4294967296 * c') := Nat.mul_assoc _ _ _
  have e2 : 4294967296 ^ i * s + 4294967296 ^ i * (4294967296 * c') = 4294967296 ^ i * a + 4294967296 ^ i * c := by rw [← Nat.mul_add, ← Nat.mul_add, hs]
  have e3 : a * 4294967296 ^ i = 4294967296 ^ i * a := Nat.mul_comm _ _
  rw [e1, e3]
  generalize 4294967296 ^ i * s = x1 at *
  generalize 4294967296 ^ i * (4294967296 * c') = x2 at *
  generalize 4294967296 ^ i * a = x3 at *
  generalize 4294967296 ^ i * c = x4 at *
  omega
theorem diff_step {O : List Nat} {T U i s c c' a b : Nat} (hl : O.length = i) (h : val O + U = T + 4294967296 ^ i * c) (hs : s + b + c = a + 4294967296 * c') : val (O ++ [s]) + (U + b * 4294967296 ^ i) = (T + a * 4294967296 ^ i) + 4294967296 ^ (i + 1) * c' := by
  rw [val_more, hl, pow_succ]
  have e1 : 4294967296 ^ i * 4294967296 * c' = 4294967296 ^ i * (4294967296 * c') := Nat.mul_assoc _ _ _
  have e2 : 4294967296 ^ i * s + 4294967296 ^ i * b + 4294967296 ^ i * c = 4294967296 ^ i * a + 4294967296 ^ i * (4294967296 * c') := by rw [← Nat.mul_add, ← Nat.mul_add, ← Nat.mul_add, hs]
  have e3 : a * 4294967296 ^ i = 4294967296 ^ i * a := Nat.mul_comm _ _
  have e4 : b * 4294967296 ^ i = 4294967296 ^ i * b := Nat.mul_comm _ _
  rw [e1, e3, e4]
  generalize 4294967296 ^ i * s = x1 at *
  generalize 4294967296 ^ i * (4294967296 * c') = x2 at *
  generalize 4294967296 ^ i * a = x3 at *
  generalize 4294967296 ^ i * b = x5 at *
  generalize 4294967296 ^ i * c = x4 at *
  omega
theorem word_mul {a w c : Nat} (ha : a < 4294967296) (hw : w < 4294967296) (hc : c < 4294967296) : a * w + c < 4294967296 * 4294967296 := by
  have h1 : a * w ≤ 4294967295 * 4294967295 := Nat.mul_le_mul (by omega) (by omega)
  omega
end Go.Tw
namespace Go.Proofs.YtfcmhcaggdakbaaGreatDoor
open Go Go.Tw
theorem rSub_any (va vb : Value) (A B : List Nat) {I : Hp} (ha : Ws I va A) (hb : Ws I vb B) (hs : A.length ≤ 35184372088500) (hs2 : B.length ≤ 35184372088500) (hle : val B ≤ val A) : Fun Tryz.prog 180 [va, vb] I [] (fun v I' _ => ∃ u, v = .tuple #[u, .bool true] ∧ Ws I' u (natW (val A - val B))) := by
  have hcmp : ¬ cmpZ (val A : Nat) (val B : Nat) < 0 := by unfold cmpZ; split <;> (try split) <;> omega
  intro w hw
  refine enter2 _ Tryz.func180 rfl Tryz.ntmps180 rfl ?_ hw;refine sR ?_;iterate 2 refine oV ?_
  refine nU ?_;iterate 2 refine oV ?_
  refine oQ Tryz.call179 rfl (rCmp_any _ _ _ _ ha hb (by omega) (by omega)) ?_;refine oV ?_;refine nT ?_;refine cC rfl (fun h1 => ?_) (fun h1 => ?_)
  ·
   have f1 := h1;try simp only [bl] at f1
   exfalso; exact hcmp f1
  have f1 := h1;try simp only [bl] at f1
  refine kS ?_;refine oV ?_;refine nS ?_;refine oV ?_;refine nU ?_;refine oV ?_;refine oN (tC (cB ?_));refine c_loop (ι := Nat × Nat × List Nat × Value) [0, 1] (.cons rfl (.cons rfl .nil)) (fun x => A.length - x.1) (fun x E0 => (6, x.2.2.2) :: (7, .int .u64 (x.2.1 : Nat)) :: (8, .int .i64 (x.1 : Nat)) :: E0) (fun x => St w [] I [.row x.2.2.2 134 1 x.2.2.1.length (wl x.2.2.1)]) (fun x => x.1 ≤ A.length ∧ x.2.1 ≤ 1 ∧ x.2.2.1.length = x.1 ∧ Wds x.2.2.1 ∧ val x.2.2.1 + pre B x.1 = pre A x.1 + 4294967296 ^ x.1 * x.2.1) ((0, 0, [], .slice none 0 0)) (sC rfl (sC rfl (sC rfl (sC rfl (sC rfl sN))))) (fun _ h => h.nilRow _ _) (⟨Nat.zero_le _, by decide, rfl, Wds_nil, rfl⟩) ?_;rintro ⟨i, c, O, u⟩ ⟨hi, hc, hol, hO, hv⟩
  try dsimp only
  simp only at hi hc hol hO hv; have hda := dg_lt ha.wds i; have hdb := dg_lt hb.wds i
  refine cS (sR ?_);iterate 2 refine oV ?_
  refine o_lenW trivial rfl Tryz.underlying33 rfl (ha) ?_;refine oV ?_;refine nT ?_;refine cC rfl (fun h2 => ?_) (fun h2 => ?_)
  ·
   have f2 := h2;try simp only [bl] at f2
   refine cK (tC (cS (cB (sR ?_))));iterate 2 refine oV ?_
   refine oQ Tryz.call205 rfl (rAt_any _ A _ i ha rfl) ?_
   first | refine o_arA trivial rfl rfl rfl (by rw [IntWalk.u64_in _ (by omega)]) ?_ | refine oV ?_
   iterate 2 refine oV ?_
   refine oQ Tryz.call205 rfl (rAt_any _ B _ i hb rfl) ?_
   first | refine o_arS trivial rfl rfl rfl (by rw [IntWalk.u64_in _ (by omega)]) ?_ | refine oV ?_
   refine oV ?_
   first | refine o_arS trivial rfl rfl rfl (by rw [IntWalk.u64_in _ (by omega)]) ?_ | refine oV ?_
   refine oV ?_;refine nS ?_;iterate 2 refine oV ?_
   refine o_rem trivial rfl rfl rfl (by omega) ?_;refine o_convIn trivial rfl Tryz.underlying136 Tryz.underlying134 rfl (by rw [IntWalk.u32_in _ (by omega)]) ?_;refine oB Tryz.underlying33 Tryz.sizeOf134 Tryz.zeroValue134 fun b34 => ?_;refine oD Tryz.underlying33 elem134 fun v35 => ?_;refine oV ?_;refine nR ?_;refine oV ?_;refine o_quo trivial rfl rfl rfl (by omega) (by first | rfl | rw [IntWalk.u64_in _ (by omega)]) ?_
   first | refine o_arS trivial rfl rfl rfl (by rw [IntWalk.u64_in _ (by omega)]) ?_ | refine oV ?_
   refine oV ?_;refine oN (blk_n (tC (cR ?_)));refine oV ?_
   first | (refine o_add trivial rfl rfl rfl ?_ ?_; (omega)) | refine oV ?_
   refine oV ?_;refine oN ?_
   have hst := diff_step (s := (4294967296 + dg A i - dg B i - c) % 4294967296) (c' := 1 - (4294967296 + dg A i - dg B i - c) / 4294967296) (a := dg A i) (b := dg B i) hol hv (by omega)
   have e7 : (1 : Int) - (4294967296 + (dg A i : Int) - (dg B i : Int) - (c : Int)) / 4294967296 = ((1 - (4294967296 + dg A i - dg B i - c) / 4294967296 : Nat) : Int) := by omega
   exact again (i + 1, 1 - (4294967296 + dg A i - dg B i - c) / 4294967296, O ++ [(4294967296 + dg A i - dg B i - c) % 4294967296], v35) (by rw [e7]; exact (sC rfl (sC rfl (sC rfl (sC rfl (sC rfl sN)))))) (fun _ h => by rw [← wl_more O (z := (4294967296 + (dg A i : Int) - (dg B i : Int) - (c : Int)) % 4294967296) (by omega), List.length_append]; exact h.sort (by repeat constructor)) (by show A.length - (i + 1) < A.length - i; omega) ⟨by show i + 1 ≤ _; omega, by show 1 - _ ≤ 1; omega, by show (O ++ [_]).length = i + 1; rw [List.length_append, hol]; rfl, hO.more (by omega), hst⟩
  have f2 := h2;try simp only [bl] at f2
  refine c_exit (then_x (then_x (blk_eq rfl (tC (cS ?_)))))
  have hie : i = A.length := by omega
  subst hie
  rw [pre_end (Nat.le_refl _)] at hv
  have hB : pre B A.length = val B := by
    rcases Nat.lt_or_ge A.length B.length with hlt | hge
    · have h1 := val_split (l := B) (i := A.length) (by omega)
      have h2 := val_lt ha.wds
      have h3 : val (B.drop A.length) = 0 := by
        rcases Nat.eq_zero_or_pos (val (B.drop A.length)) with h | h
        · exact h
        · have : 4294967296 ^ A.length * 1 ≤ 4294967296 ^ A.length * val (B.drop A.length) := Nat.mul_le_mul_left _ h
          omega
      rw [h3, Nat.mul_zero] at h1
      omega
    · exact pre_end hge
  have hc0 : c = 0 := by
    have h2 := val_lt hO
    rw [hol] at h2
    rw [hB] at hv
    rcases Nat.eq_zero_or_pos c with h | h
    · exact h
    · have : 4294967296 ^ A.length * 1 ≤ 4294967296 ^ A.length * c := Nat.mul_le_mul_left _ h
      omega
  subst hc0
  rw [hB, Nat.mul_zero, Nat.add_zero] at hv
  refine c_sealO O .here hO (by unfold maxLen; omega) (fun I1 hx1 hs1 => ?_);refine cR ?_;refine oV ?_;refine oI Tryz.call115 rfl (rTrim_any _ _ hs1 (by omega)) ?_;rintro u2 I2 hx2 hs2';iterate 2 refine oV ?_
  refine nE ?_;refine ret2 rfl rfl rfl ?_;refine leaf (hx1.trans hx2 (Nat.le_refl _)) (List.nil_sublist _) ⟨u2, rfl, ?_⟩; rw [show val O = val A - val B by omega] at hs2'; exact hs2'
theorem rOne_any (va : Value) (A : List Nat) (y c0 : Nat) {I : Hp} (ha : Ws I va A) (hs : A.length ≤ 35184372088500) (hy : y < 4294967296) (hc0 : c0 < 4294967296) : Fun Tryz.prog 177 [va, .int .u32 (y : Int), .int .u32 (c0 : Int)] I [] (fun v I' _ => Ws I' v (natW (val A * y + c0))) := by
  intro w hw
  refine enter3 _ Tryz.func177 rfl Tryz.ntmps177 rfl ?_ hw;refine sR ?_;refine oV ?_;refine nS ?_;refine oV ?_;refine nS ?_;refine oV ?_
  first | refine o_convIn trivial rfl Tryz.underlying134 Tryz.underlying136 rfl (by rw [IntWalk.u64_in _ (by omega)]) ?_ | refine o_conv trivial rfl Tryz.underlying134 Tryz.underlying136 rfl ?_
  refine oV ?_;refine nU ?_;refine oV ?_;refine oN (tC (cB ?_));refine c_loop (ι := Nat × Nat × List Nat × Value) [0, 1] (.cons rfl (.cons rfl .nil)) (fun x => A.length - x.1) (fun x E0 => (7, x.2.2.2) :: (8, .int .u64 (x.2.1 : Nat)) :: (9, .int .i64 (x.1 : Nat)) :: E0) (fun x => St w [] I [.row x.2.2.2 134 1 x.2.2.1.length (wl x.2.2.1)]) (fun x => x.1 ≤ A.length ∧ x.2.1 < 4294967296 ∧ x.2.2.1.length = x.1 ∧ Wds x.2.2.1 ∧ val x.2.2.1 + 4294967296 ^ x.1 * x.2.1 = pre A x.1 * y + c0) ((0, c0, [], .slice none 0 0)) (sC rfl (sC rfl (sC rfl (sC rfl (sC rfl sN))))) (fun _ h => h.nilRow _ _) (⟨Nat.zero_le _, hc0, rfl, Wds_nil, by show 0 + 4294967296 ^ 0 * c0 = 0 * y + c0; omega⟩) ?_;rintro ⟨i, c, O, u⟩ ⟨hi, hc, hol, hO, hv⟩
  try dsimp only
  simp only at hi hc hol hO hv; have hda := dg_lt ha.wds i; have hmw := word_mul hda hy hc
  refine cS (sR ?_);iterate 2 refine oV ?_
  refine o_lenW trivial rfl Tryz.underlying33 rfl (ha) ?_;refine oV ?_;refine nT ?_;refine cC rfl (fun h1 => ?_) (fun h1 => ?_)
  ·
   have f1 := h1;try simp only [bl] at f1
   refine cK (tC (cS (cB (sR ?_))));iterate 2 refine oV ?_
   refine o_elemW trivial rfl Tryz.underlying33 Tryz.sizeOf134 rfl (ha) rfl (by omega) ?_;refine o_load1I trivial rfl Tryz.isAgg134 rfl (ha.cellI (k := i) rfl (by omega)) ?_
   first | refine o_convIn trivial rfl Tryz.underlying134 Tryz.underlying136 rfl (by rw [IntWalk.u64_in _ (by omega)]) ?_ | refine o_conv trivial rfl Tryz.underlying134 Tryz.underlying136 rfl ?_
   refine oV ?_
   first | refine o_convIn trivial rfl Tryz.underlying134 Tryz.underlying136 rfl (by rw [IntWalk.u64_in _ (by omega)]) ?_ | refine o_conv trivial rfl Tryz.underlying134 Tryz.underlying136 rfl ?_
   rw [show (dg A i : Int) = ((dg A i : Nat) : Int) from rfl]
   first | refine o_arM trivial rfl rfl rfl (by rw [IntWalk.u64_in _ (by rw [← Int.natCast_mul]; omega)]) ?_ | refine oV ?_
   refine oV ?_
   rw [← Int.natCast_mul]
   first | refine o_arA trivial rfl rfl rfl (by rw [IntWalk.u64_in _ (by omega)]) ?_ | refine oV ?_
   refine oV ?_;refine nS ?_;iterate 2 refine oV ?_
   refine o_rem trivial rfl rfl rfl (by omega) ?_;refine o_convIn trivial rfl Tryz.underlying136 Tryz.underlying134 rfl (by rw [IntWalk.u32_in _ (by omega)]) ?_;refine oB Tryz.underlying33 Tryz.sizeOf134 Tryz.zeroValue134 fun b33 => ?_;refine oD Tryz.underlying33 elem134 fun v34 => ?_;refine oV ?_;refine nR ?_;refine oV ?_;refine o_quo trivial rfl rfl rfl (by omega) (by first | rfl | rw [IntWalk.u64_in _ (by omega)]) ?_;refine oV ?_;refine oN (blk_n (tC (cR ?_)));refine oV ?_
   first | (refine o_add trivial rfl rfl rfl ?_ ?_; (omega)) | refine oV ?_
   refine oV ?_;refine oN ?_
   have hst := sum_step (s := (dg A i * y + c) % 4294967296) (c' := (dg A i * y + c) / 4294967296) (a := dg A i * y) hol hv (by omega)
   exact again (i + 1, (dg A i * y + c) / 4294967296, O ++ [(dg A i * y + c) % 4294967296], v34) (sC rfl (sC rfl (sC rfl (sC rfl (sC rfl sN))))) (fun _ h => by rw [← wl_more O (z := (((dg A i * y : Nat) : Int) + (c : Int)) % 4294967296) (by omega), List.length_append]; exact h.sort (by repeat constructor)) (by show A.length - (i + 1) < A.length - i; omega) ⟨by show i + 1 ≤ _; omega, by show (dg A i * y + c) / 4294967296 < 4294967296; omega, by show (O ++ [_]).length = i + 1; rw [List.length_append, hol]; rfl, hO.more (by omega), by
     show val (O ++ [_]) + 4294967296 ^ (i + 1) * _ = (pre A i + dg A i * 4294967296 ^ i) * y + c0
     rw [hst, Nat.add_mul, Nat.mul_right_comm]; omega⟩
  have f1 := h1;try simp only [bl] at f1
  refine c_exit (then_x (then_x (blk_eq rfl (tC (cS ?_)))))
  have hie : i = A.length := by omega
  subst hie
  rw [pre_end (Nat.le_refl _)] at hv
  refine cR ?_;iterate 2 refine oV ?_
  refine o_convIn trivial rfl Tryz.underlying136 Tryz.underlying134 rfl (by rw [IntWalk.u32_in _ (by omega)]) ?_;refine oB Tryz.underlying33 Tryz.sizeOf134 Tryz.zeroValue134 fun b40 => ?_;refine oD Tryz.underlying33 elem134 fun v41 => ?_;refine oV ?_;refine oN (tC (cS ?_))
  rw [show wl O ++ ([Value.int .u32 (c : Int)] ++ []) = wl (O ++ [c]) from wl_more O rfl]
  refine c_sealO (O ++ [c]) (by rw [List.length_append]; exact .there .here) (hO.more hc) (by rw [List.length_append, hol]; have := ha.most; unfold maxLen at *; show A.length + 1 ≤ _; omega) (fun I1 hx1 hs1 => ?_)
  rw [← hol, ← val_more] at hv
  refine cR ?_;refine oV ?_;refine oI Tryz.call115 rfl (rTrim_any _ _ hs1 (by rw [List.length_append, hol]; show A.length + 1 ≤ _; omega)) ?_;rintro u2 I2 hx2 hs2';refine oV ?_;refine nE ?_;refine ret1 rfl rfl ?_;refine leaf (hx1.trans hx2 (Nat.le_refl _)) (List.nil_sublist _) ?_; rw [hv] at hs2'; exact hs2'
theorem rShift_any (va : Value) (A : List Nat) (m : Nat) {I : Hp} (ha : Ws I va A) (hs : A.length ≤ 1000000) (hm : m ≤ 100000) : Fun Tryz.prog 202 [va, .int .i64 (m : Int)] I [] (fun v I' _ => Ws I' v (natW (val A * 2 ^ m))) := by
  have hA := val_lt ha.wds
  intro w hw
  refine enter2 _ Tryz.func202 rfl Tryz.ntmps202 rfl ?_ hw;refine sR ?_;refine oV ?_;refine nS ?_;refine oV ?_;refine oI Tryz.call115 rfl (rTrim_any _ _ ha (by omega)) ?_;rintro u1 I1 hx1 hs1;refine oV ?_;refine nU ?_;refine oV ?_;refine oN (tC (cB ?_));refine c_loop (ι := Nat × Value × Hp) [1] (.cons rfl .nil) (fun x => m - x.1) (fun x E0 => (5, x.2.1) :: (6, .int .i64 (x.1 : Nat)) :: E0) (fun x => St w [] x.2.2 []) (fun x => x.1 ≤ m ∧ Ws x.2.2 x.2.1 (natW (val A * 2 ^ x.1)) ∧ Ext w.heap.size I x.2.2) ((0, u1, I1)) (sC rfl (sC rfl (sC rfl sN))) (fun _ h => h) (⟨Nat.zero_le _, by show Ws I1 u1 (natW (val A * 1)); rw [Nat.mul_one]; exact hs1, hx1⟩) ?_;rintro ⟨i, u, I2⟩ ⟨hi, hu, hx2⟩
  try dsimp only
  simp only at hi hu hx2
  refine cS (sR ?_);iterate 3 refine oV ?_
  refine' o_and trivial trivial rfl rfl rfl rfl rfl rfl rfl rfl (fun hb12 => ?_) ?_;rotate_left
  ·
   iterate 2 refine gV hb12 ?_
   refine oN ?_;exact joins rfl
  refine' o_and trivial trivial rfl rfl rfl rfl rfl rfl rfl rfl (fun hb16 => ?_) ?_;rotate_left
  ·
   have fb16 := hb16
   try simp only [bl] at fb16
   refine gV hb16 ?_;refine o_lenW (wS rfl rfl hb16) rfl Tryz.underlying33 rfl (hu) ?_;refine gV hb16 ?_;refine oN ?_;exact joins rfl
  refine nT ?_;refine cC rfl (fun h1 => ?_) (fun h1 => ?_)
  ·
   have f1 := h1;try simp only [bl] at f1
   have hl1 : (natW (val A * 2 ^ i)).length ≤ A.length + (i + 1) := natW_len_le (by
     rw [Nat.pow_add]
     refine Nat.mul_lt_mul'' hA ?_
     have h2 : 2 ^ i < 2 ^ (32 * (i + 1)) := Nat.pow_lt_pow_right (by decide) (by omega)
     rwa [Nat.pow_mul] at h2)
   refine cK (tC (cS (cB (cR ?_))));refine oV ?_;refine oI Tryz.call177 rfl (rOne_any _ _ 2 0 hu (by omega) (by decide) (by decide)) ?_;rintro u3 I3 hx3 hs3;refine oV ?_;refine oN (blk_n (tC (cR ?_)));refine oV ?_
   first | (refine o_add trivial rfl rfl rfl ?_ ?_; (omega)) | refine oV ?_
   refine oV ?_;refine oN ?_
   rw [val_natW, Nat.add_zero, Nat.mul_assoc, ← Nat.pow_succ] at hs3
   exact again (i + 1, u3, I3) (sC rfl (sC rfl (sC rfl sN))) (fun _ h => h) (by show m - (i + 1) < m - i; omega) ⟨by show i + 1 ≤ _; omega, hs3, hx2.trans hx3 (Nat.le_refl _)⟩
  have f1 := h1;try simp only [bl] at f1
  refine c_exit (then_x (then_x (blk_eq rfl (tC (sR ?_)))));iterate 2 refine oV ?_
  refine nE ?_;refine ret1 rfl rfl ?_;refine leaf hx2 (List.nil_sublist _) ?_
  by_cases him : i = m
  · subst him; exact hu
  · have h0 : val A * 2 ^ i = 0 := natW_len_zero.1 (by omega)
    have hp : 0 < 2 ^ i := Nat.pow_pos (by decide)
    have h1 : val A = 0 := by
      rcases Nat.mul_eq_zero.1 h0 with h | h
      · exact h
      · omega
    rw [h1, Nat.zero_mul] at hu ⊢
    exact hu
end Go.Proofs.YtfcmhcaggdakbaaGreatDoor
namespace Go.Tw
open Go
theorem bits_one {a : Nat} (ha : a < 4294967296) : bits .and .u32 (a : Int) ((1 : Nat) : Int) = ((a % 2 : Nat) : Int) := by
  have h1 : (BitVec.ofInt 32 (a : Int)).toNat = a := by
    rw [BitVec.ofInt_natCast, BitVec.toNat_ofNat]; exact Nat.mod_eq_of_lt (by omega)
  have h2 : (BitVec.ofInt 32 ((1 : Nat) : Int)).toNat = 1 := by
    rw [BitVec.ofInt_natCast, BitVec.toNat_ofNat]
  show IntKind.u32.wrap ((BitVec.ofInt 32 (a : Int) &&& BitVec.ofInt 32 ((1 : Nat) : Int)).toNat : Int) = _
  rw [BitVec.toNat_and, h1, h2, Nat.and_one_is_mod, IntWalk.u32_in _ (by omega)]
section
variable {P : Program} {ops : Array Oper} {rest : List Oper} {n : Nat} {D : List Deferred} {E : Env} {S : World → Prop} {Q : Exit → Act → World → Prop} {d : Nat} {ty : TypeId} {pos : String} {aft : Array Edge} {g : Option (Nat × Bool)}
theorem o_and1 {qm : Bool} {x y : Operand} {t t2 : TypeId} {a : Nat} (hg : Wants ops E g) (hd : Nat.blt d n = true) (hx : ev E x = some (.int .u32 (a : Int))) (hy : ev E y = some (.int .u32 1)) (h : a < 4294967296)
    (k : TL qm P ops Q rest n D ((d, .int .u32 ((a % 2 : Nat) : Int)) :: E) S) : TL qm P ops Q (⟨some d, .binOp .and t x y t2, ty, pos, aft, g⟩ :: rest) n D E S :=
  o_rd hg hd (v := .int .u32 ((a % 2 : Nat) : Int)) (fun a w ha hw d pos aft g => ⟨w, by
    simp only [execOp, ha.ev hx, ha.ev hy, Sem.run_bind, run_eqGuard_int, Result.andThen_ok]
    rw [binOp_and, intBits_and, show (1 : Int) = ((1 : Nat) : Int) from rfl, bits_one h]
    simp, rfl⟩) k
end
theorem val_bit {A : List Nat} (hA : Wds A) {i : Nat} (h : i / 32 < A.length) : dg A (i / 32) / 2 ^ (i % 32) % 2 = val A / 2 ^ i % 2 := by
  have hr : i % 32 < 32 := Nat.mod_lt _ (by decide)
  have h1 := val_split (l := A) (i := i / 32) (by omega)
  have h2 := val_drop h
  have h3 : 2 ^ i = 4294967296 ^ (i / 32) * 2 ^ (i % 32) := by
    rw [pow_bits, ← Nat.pow_add]; congr 1; omega
  have h4 : val A / 4294967296 ^ (i / 32) = val (A.drop (i / 32)) := by
    rw [h1, Nat.add_mul_div_left _ _ (pow_pos _), Nat.div_eq_of_lt (pre_lt hA _), Nat.zero_add]
  have h5 : (4294967296 : Nat) = 2 ^ (i % 32) * (2 * 2 ^ (31 - i % 32)) := by
    rw [← Nat.pow_succ', ← Nat.pow_add, show i % 32 + (31 - i % 32).succ = 32 by omega]
  rw [h3, ← Nat.div_div_eq_div_mul, h4, h2, h5, Nat.mul_assoc, Nat.mul_assoc, Nat.add_mul_div_left _ _ (Nat.pow_pos (by decide)), Nat.add_mul_mod_self_left]
theorem bit_step {a i d q r : Nat} (hd : 0 < d) (hq : q = a / 2 ^ (i + 1) / d) (hr : r = a / 2 ^ (i + 1) % d) :
    (d ≤ 2 * r + a / 2 ^ i % 2 → 2 * q + 1 = a / 2 ^ i / d ∧ 2 * r + a / 2 ^ i % 2 - d = a / 2 ^ i % d) ∧ (¬ d ≤ 2 * r + a / 2 ^ i % 2 → 2 * q = a / 2 ^ i / d ∧ 2 * r + a / 2 ^ i % 2 = a / 2 ^ i % d) := by
  have h1 : a / 2 ^ (i + 1) = a / 2 ^ i / 2 := by rw [Nat.pow_succ, Nat.div_div_eq_div_mul]
  have h2 : r < d := by rw [hr]; exact Nat.mod_lt _ hd
  have h3 := Nat.div_add_mod (a / 2 ^ (i + 1)) d
  rw [← hq, ← hr, h1] at h3
  generalize a / 2 ^ i = b at *
  have hb : b % 2 < 2 := Nat.mod_lt _ (by decide)
  have hm : d * (2 * q) = 2 * (d * q) := Nat.mul_left_comm _ _ _
  constructor
  · intro h
    exact div_unique (by rw [Nat.mul_comm, Nat.mul_add, Nat.mul_one, hm]; omega) (by omega)
  · intro h
    exact div_unique (by rw [Nat.mul_comm, hm]; omega) (by omega)
end Go.Tw
namespace Go.Proofs.YtfcmhcaggdakbaaGreatDoor
open Go Go.Tw
theorem rBit_any (va : Value) (A : List Nat) (i : Nat) {I : Hp} (ha : Ws I va A) (hs : A.length ≤ 35184372088400) (hi : i < 32 * A.length) : Fun Tryz.prog 178 [va, .int .i64 (i : Int)] I [] (fun v _ _ => v = .int .u32 ((val A / 2 ^ i % 2 : Nat) : Int)) := by
  have hd := dg_lt ha.wds (i / 32)
  have hd2 : dg A (i / 32) / 2 ^ (i % 32) ≤ dg A (i / 32) := Nat.div_le_self _ _
  intro w hw
  refine enter2 _ Tryz.func178 rfl Tryz.ntmps178 rfl ?_ hw;refine sR ?_;refine oV ?_;refine nS ?_;iterate 2 refine oV ?_
  refine o_quo trivial rfl rfl rfl (by omega) (by first | rfl | rw [IntWalk.i64_in _ (by omega)]) ?_
  rw [show (i : Int) / 32 = ((i / 32 : Nat) : Int) by omega]
  refine o_elemW trivial rfl Tryz.underlying33 Tryz.sizeOf134 rfl (ha) rfl (by omega) ?_;refine o_load1I trivial rfl Tryz.isAgg134 rfl (ha.cellI (k := i / 32) rfl (by omega)) ?_;refine oV ?_;refine o_rem trivial rfl rfl rfl (by omega) ?_
  rw [show (i : Int) % 32 = ((i % 32 : Nat) : Int) by omega]
  refine o_shr (2 ^ (i % 32)) trivial rfl rfl rfl (by omega) (by rw [Int.toNat_natCast, show min (i % 32) IntKind.u32.bits = i % 32 from Nat.min_eq_left (by show i % 32 ≤ 32; omega)]) (by omega) ?_
  rw [show (dg A (i / 32) : Int) / ((2 ^ (i % 32) : Nat) : Int) = ((dg A (i / 32) / 2 ^ (i % 32) : Nat) : Int) from (Int.natCast_ediv _ _).symm]
  refine o_and1 trivial rfl rfl rfl (by omega) ?_;refine oV ?_;refine nE ?_;refine ret1 rfl rfl ?_;refine leaf0 (congrArg (Value.int .u32) ?_); rw [val_bit ha.wds (by omega)]
theorem dbl_len {n b k : Nat} (h : (natW n).length ≤ k) (hb : (natW b).length ≤ k) : (natW (2 * n + b)).length ≤ k + 2 := by
  rw [Nat.two_mul]
  exact natW_add_len _ _ (k + 1) (natW_add_len _ _ k h h) (by omega)
theorem one_len {b : Nat} (h : b ≤ 1) : (natW b).length ≤ 1 := natW_len_le (by rw [Nat.pow_one]; omega)
theorem rDiv_any (va vb : Value) (A B : List Nat) {I : Hp} (ha : Ws I va A) (hb : Ws I vb B) (hs : A.length ≤ 35184372088400) (hs2 : B.length ≤ 35184372088400) (h0 : 0 < val B) : Fun Tryz.prog 148 [va, vb] I [] (fun v I' _ => ∃ u1 u2, v = .tuple #[u1, u2, .bool true] ∧ Ws I' u1 (natW (val A / val B)) ∧ Ws I' u2 (natW (val A % val B))) := by
  have hbl : (natW (val B)).length ≤ B.length := natW_len_list hb.wds
  have hbz : (natW (val B)).length ≠ 0 := fun e => by have := natW_len_zero.1 e; omega
  have hA : val A < 2 ^ (32 * A.length) := by have := val_lt ha.wds; rwa [pow_bits] at this
  have hal : (natW (val A)).length ≤ A.length := natW_len_list ha.wds
  intro w hw
  refine enter2 _ Tryz.func148 rfl Tryz.ntmps148 rfl ?_ hw;refine sR ?_;iterate 3 refine oV ?_
  refine nS ?_;refine oV ?_;refine oI Tryz.call115 rfl (rTrim_any _ _ hb (by omega)) ?_;rintro u1 I1 hx1 hs1;refine oV ?_;refine nU ?_;refine oV ?_;refine o_lenW trivial rfl Tryz.underlying33 rfl (hs1) ?_;refine oV ?_;refine nT ?_;refine cC rfl (fun h1 => ?_) (fun h1 => ?_)
  ·
   have f1 := h1;try simp only [bl] at f1
   exfalso; omega
  have f1 := h1;try simp only [bl] at f1
  refine kS ?_;refine oV ?_;refine nS ?_;refine oV ?_;refine nU ?_;refine oV ?_;refine o_lenW trivial rfl Tryz.underlying33 rfl (ha) ?_
  first | (refine o_mul trivial rfl rfl rfl ?_ ?_; (omega)) | refine oV ?_
  first | (refine o_sub trivial rfl rfl rfl ?_ ?_; (omega)) | refine oV ?_
  refine oV ?_;refine oN (tC (cB ?_));refine c_loop (ι := Nat × Int × Value × Value × Hp) [0, 7] (.cons rfl (.cons rfl .nil)) (fun x => x.1) (fun x E0 => (8, x.2.2.1) :: (9, x.2.2.2.1) :: (10, .int .i64 x.2.1) :: E0) (fun x => St w [] x.2.2.2.2 []) (fun x => x.1 ≤ 32 * A.length ∧ x.2.1 = (x.1 : Int) - 1 ∧ Ws x.2.2.2.2 x.2.2.1 (natW (val A / 2 ^ x.1 / val B)) ∧ Ws x.2.2.2.2 x.2.2.2.1 (natW (val A / 2 ^ x.1 % val B)) ∧ Ext w.heap.size I x.2.2.2.2 ∧ I1.Le x.2.2.2.2) ((32 * A.length, 32 * (A.length : Int) - 1, .slice none 0 0, .slice none 0 0, I1)) (sC rfl (sC rfl (sC rfl (sC rfl (sC rfl sN))))) (fun _ h => h) (⟨Nat.le_refl _, by simp only; omega, by simp only; rw [Nat.div_eq_of_lt hA, Nat.zero_div, natW_zero]; exact Ws.nil _, by simp only; rw [Nat.div_eq_of_lt hA, Nat.zero_mod, natW_zero]; exact Ws.nil _, hx1, Hp.Le.refl _⟩) ?_;rintro ⟨j, z, uq, ur, I2⟩ ⟨hj, hz, hq, hr, hx2, hle⟩
  try dsimp only
  simp only at hj hz hq hr hx2 hle; subst hz
  refine cS (sR ?_);iterate 2 refine oV ?_
  refine nT ?_;refine cC rfl (fun h2 => ?_) (fun h2 => ?_)
  ·
   have f2 := h2;try simp only [bl] at f2
   obtain ⟨i, rfl⟩ : ∃ i, j = i + 1 := ⟨j - 1, by omega⟩
   have hql : (natW (val A / 2 ^ (i + 1) / val B)).length ≤ 35184372088400 := Nat.le_trans (natW_le_len (Nat.le_trans (Nat.div_le_self _ _) (Nat.div_le_self _ _))) (Nat.le_trans hal hs)
   have hrl : (natW (val A / 2 ^ (i + 1) % val B)).length ≤ 35184372088400 := Nat.le_trans (natW_le_len (Nat.le_trans (Nat.mod_le _ _) (Nat.div_le_self _ _))) (Nat.le_trans hal hs)
   have hbs := bit_step (a := val A) (i := i) h0 rfl rfl
   have e1 : ((i + 1 : Nat) : Int) - 1 = (i : Nat) := by omega
   rw [e1]
   have hqv : val (natW (val A / 2 ^ (i + 1) / val B)) * 2 + 0 = 2 * (val A / 2 ^ (i + 1) / val B) := by rw [val_natW]; omega
   have hrv : val (natW (val A / 2 ^ (i + 1) % val B)) * 2 + val A / 2 ^ i % 2 = 2 * (val A / 2 ^ (i + 1) % val B) + val A / 2 ^ i % 2 := by rw [val_natW]; omega
   refine cK (tC (cS (cB (sR ?_))));refine oV ?_;refine oI Tryz.call177 rfl (rOne_any _ _ 2 0 hq (by omega) (by decide) (by decide)) ?_;rintro u3 I3 hx3 hs3;refine oV ?_;refine nS ?_;iterate 3 refine oV ?_
   refine oQ Tryz.call178 rfl (rBit_any _ A i (ha.le (hx2.le.trans hx3.le)) (by omega) (by omega)) ?_;refine oI Tryz.call177 rfl (rOne_any _ _ 2 (val A / 2 ^ i % 2) (hr.le hx3.le) (by omega) (by decide) (by omega)) ?_;rintro u4 I4 hx4 hs4;refine oV ?_;refine oN (tC (cS ?_))
   rw [hqv] at hs3
   rw [hrv] at hs4
   have hl3 := dbl_len (n := val A / 2 ^ (i + 1) / val B) (b := 0) hql (by rw [natW_zero]; exact Nat.zero_le _)
   rw [Nat.add_zero] at hl3
   have hl4 := dbl_len (n := val A / 2 ^ (i + 1) % val B) (b := val A / 2 ^ i % 2) hrl (Nat.le_trans (one_len (by omega)) (by decide))
   refine cR ?_;iterate 2 refine oV ?_
   refine oQ Tryz.call179 rfl (rCmp_any _ _ _ _ hs4 (hs1.le (hle.trans (hx3.le.trans hx4.le))) (by omega) (by omega)) ?_;refine oV ?_;refine nT ?_;refine cC rfl (fun h3 => ?_) (fun h3 => ?_)
   ·
    have f3 := h3;try simp only [bl] at f3
    rw [val_natW, val_natW] at f3
    have hge : val B ≤ 2 * (val A / 2 ^ (i + 1) % val B) + val A / 2 ^ i % 2 := by unfold cmpZ at f3; split at f3 <;> (try split at f3) <;> omega
    obtain ⟨hb1, hb2⟩ := hbs.1 hge
    refine sR ?_;iterate 2 refine oV ?_
    refine oI Tryz.call180 rfl (rSub_any _ _ _ _ hs4 (hs1.le (hle.trans (hx3.le.trans hx4.le))) (by omega) (by omega) (by rw [val_natW, val_natW]; exact hge)) ?_;rintro _ I5 hx5 ⟨u5, rfl, hs5⟩;iterate 4 refine oV ?_
    refine nR ?_;refine oV ?_;refine oI Tryz.call177 rfl (rOne_any _ _ 1 1 (hs3.le (hx4.le.trans hx5.le)) (by omega) (by decide) (by decide)) ?_;rintro u6 I6 hx6 hs6;refine oV ?_;refine oN (blk_n (tC (cR ?_)));refine oV ?_
    first | (refine o_sub trivial rfl rfl rfl ?_ ?_; (omega)) | refine oV ?_
    refine oV ?_;refine oN ?_
    first
      | (rw [val_natW, val_natW, hb2] at hs5
         rw [val_natW, Nat.mul_one, hb1] at hs6
         exact again (i, (i : Int) - 1, u6, u5, I6) (sC rfl (sC rfl (sC rfl (sC rfl (sC rfl sN))))) (fun _ h => h) (by show i < i + 1; omega) ⟨by show i ≤ _; omega, rfl, hs6, hs5.le hx6.le, hx2.trans (hx3.trans (hx4.trans (hx5.trans hx6 (Nat.le_refl _)) (Nat.le_refl _)) (Nat.le_refl _)) (Nat.le_refl _), hle.trans (hx3.le.trans (hx4.le.trans (hx5.le.trans hx6.le)))⟩)
      | (rw [hb2] at hs4
         rw [hb1] at hs3
         exact again (i, (i : Int) - 1, u3, u4, I4) (sC rfl (sC rfl (sC rfl (sC rfl (sC rfl sN))))) (fun _ h => h) (by show i < i + 1; omega) ⟨by show i ≤ _; omega, rfl, hs3.le hx4.le, hs4, hx2.trans (hx3.trans hx4 (Nat.le_refl _)) (Nat.le_refl _), hle.trans (hx3.le.trans hx4.le)⟩)
   have f3 := h3;try simp only [bl] at f3
   rw [val_natW, val_natW] at f3
   have hge : ¬ val B ≤ 2 * (val A / 2 ^ (i + 1) % val B) + val A / 2 ^ i % 2 := by unfold cmpZ at f3; split at f3 <;> (try split at f3) <;> omega
   obtain ⟨hb1, hb2⟩ := hbs.2 hge
   refine cK (blk_n (tC (cR ?_)));refine oV ?_
   first | (refine o_sub trivial rfl rfl rfl ?_ ?_; (omega)) | refine oV ?_
   refine oV ?_;refine oN ?_
   first
     | (rw [val_natW, val_natW, hb2] at hs5
        rw [val_natW, Nat.mul_one, hb1] at hs6
        exact again (i, (i : Int) - 1, u6, u5, I6) (sC rfl (sC rfl (sC rfl (sC rfl (sC rfl sN))))) (fun _ h => h) (by show i < i + 1; omega) ⟨by show i ≤ _; omega, rfl, hs6, hs5.le hx6.le, hx2.trans (hx3.trans (hx4.trans (hx5.trans hx6 (Nat.le_refl _)) (Nat.le_refl _)) (Nat.le_refl _)) (Nat.le_refl _), hle.trans (hx3.le.trans (hx4.le.trans (hx5.le.trans hx6.le)))⟩)
     | (rw [hb2] at hs4
        rw [hb1] at hs3
        exact again (i, (i : Int) - 1, u3, u4, I4) (sC rfl (sC rfl (sC rfl (sC rfl (sC rfl sN))))) (fun _ h => h) (by show i < i + 1; omega) ⟨by show i ≤ _; omega, rfl, hs3.le hx4.le, hs4, hx2.trans (hx3.trans hx4 (Nat.le_refl _)) (Nat.le_refl _), hle.trans (hx3.le.trans hx4.le)⟩)
  have f2 := h2;try simp only [bl] at f2
  refine c_exit (then_x (then_x (blk_eq rfl (tC (sR ?_)))));iterate 5 refine oV ?_
  refine nE ?_;refine ret3 rfl rfl rfl rfl ?_
  have hj0 : j = 0 := by omega
  subst hj0
  rw [Nat.pow_zero, Nat.div_one] at hq hr
  exact leaf hx2 (List.nil_sublist _) ⟨uq, ur, rfl, hq, hr⟩
theorem rSmall_any (va : Value) (A : List Nat) (d : Nat) {I : Hp} (ha : Ws I va A) (hs : A.length ≤ 35184372088400) (hd0 : 0 < d) (hd : d < 4294967296) : Fun Tryz.prog 116 [va, .int .u32 (d : Int)] I [] (fun v I' _ => ∃ u, v = .tuple #[u, .int .u32 ((val A % d : Nat) : Int), .bool true] ∧ Ws I' u (natW (val A / d))) := by
  have hv1 : val [d] = d := by rw [val_cons, val_nil]; omega
  intro w hw
  refine enter2 _ Tryz.func116 rfl Tryz.ntmps116 rfl ?_ hw;refine sR ?_;iterate 3 refine oV ?_
  refine nS ?_;iterate 2 refine oV ?_
  refine oB Tryz.underlying33 Tryz.sizeOf134 Tryz.zeroValue134 fun b13 => ?_;refine l_sealW [d] .here (Wds_cons hd Wds_nil) (by unfold maxLen; simp) (fun I1 hx1 hs1 => ?_);refine oI Tryz.call148 rfl (rDiv_any _ _ A [d] (ha.le hx1.le) hs1 hs (by simp) (by rw [hv1]; exact hd0)) ?_;rintro _ I2 hx2 ⟨u1, u2, rfl, hq, hr⟩;iterate 7 refine oV ?_
  refine oN (tC (cS (cS ?_)))
  rw [hv1] at hq hr
  have hrd : val A % d < d := Nat.mod_lt _ hd0
  have hrl := natW_len_le (n := val A % d) (k := 1) (by rw [Nat.pow_one]; omega)
  refine cR ?_;refine oV ?_;refine o_lenW trivial rfl Tryz.underlying33 rfl (hr) ?_;refine oV ?_;refine nT ?_;refine cC rfl (fun h1 => ?_) (fun h1 => ?_)
  ·
   have f1 := h1;try simp only [bl] at f1
   refine sR ?_;iterate 5 refine oV ?_
   refine nF ?_;refine ret3 rfl rfl rfl rfl ?_
   have h0 : val A % d = 0 := natW_len_zero.1 (by omega)
   refine leaf (hx1.trans hx2 (Nat.le_refl _)) (List.nil_sublist _) ⟨u1, ?_, hq⟩; rw [h0]; rfl
  have f1 := h1;try simp only [bl] at f1
  have h0 : val A % d ≠ 0 := fun e => f1 (by rw [e, natW_zero]; rfl)
  have hdg : dg (natW (val A % d)) 0 = val A % d := by rw [natW_pos h0]; show (val A % d) % 4294967296 = _; exact Nat.mod_eq_of_lt (by omega)
  refine cK (tC (cS ?_));refine c_quiet (by kernel_rfl) (by kernel_rfl) (fun _ h => h.drawn) ?_;iterate 2 refine oV ?_
  refine o_elemW trivial rfl Tryz.underlying33 Tryz.sizeOf134 rfl (hr) rfl (by omega) ?_;refine o_load1I trivial rfl Tryz.isAgg134 rfl (hr.cellI (k := 0) rfl (by omega)) ?_;iterate 4 refine oV ?_
  refine nE ?_;refine ret3 rfl rfl rfl rfl ?_;refine leaf (hx1.trans hx2 (Nat.le_refl _)) (List.nil_sublist _) ⟨u1, ?_, hq⟩; rw [hdg]; rfl
theorem natW_even {n : Nat} (h : n ≠ 0) : dg (natW n) 0 % 2 = n % 2 := by
  rw [natW_pos h]; show (n % 4294967296) % 2 = n % 2; omega
structure OddOf (n x k : Nat) : Prop where
  eq : n = 2 ^ k * x
  odd : x % 2 = 1
theorem rOdd_any (va : Value) (n : Nat) {I : Hp} (ha : Ws I va (natW n)) (hs : (natW n).length ≤ 35184372088400) (h0 : 0 < n) : Fun Tryz.prog 201 [va] I [] (fun v I' _ => ∃ u x k, v = .tuple #[u, .int .i64 (k : Nat)] ∧ Ws I' u (natW x) ∧ OddOf n x k) := by
  intro w hw
  refine enter1 _ Tryz.func201 rfl Tryz.ntmps201 rfl ?_ hw;refine sR ?_;iterate 2 refine oV ?_
  refine nS ?_;refine oV ?_;refine oN (tC (cS (cB ?_)));refine c_loop (ι := Nat × Nat × Value × Hp) [] .nil (fun x => x.1) (fun x E0 => (0, x.2.2.1) :: (4, .int .i64 (x.2.1 : Nat)) :: E0) (fun x => St w [] x.2.2.2 []) (fun x => 0 < x.1 ∧ n = 2 ^ x.2.1 * x.1 ∧ Ws x.2.2.2 x.2.2.1 (natW x.1) ∧ (natW x.1).length ≤ 35184372088400 ∧ Ext w.heap.size I x.2.2.2) ((n, 0, va, I)) (sC rfl (sC rfl sN)) (fun _ h => h) (⟨h0, by simp, ha, hs, Ext.refl _ _⟩) ?_;rintro ⟨m, k, u, I1⟩ ⟨hm0, he, hu, hl, hx1⟩
  try dsimp only
  simp only at hm0 he hu hl hx1; have hne : (natW m).length ≠ 0 := fun e => by have := natW_len_zero.1 e; omega
  refine cS (sR ?_);refine oV ?_;refine o_lenW trivial rfl Tryz.underlying33 rfl (hu) ?_;refine oV ?_;refine' o_and trivial trivial rfl rfl rfl rfl rfl rfl rfl rfl (fun hb8 => ?_) ?_;rotate_left
  ·
   have fb8 := hb8
   try simp only [bl] at fb8
   refine gV hb8 ?_;refine o_elemW (wS rfl rfl hb8) rfl Tryz.underlying33 Tryz.sizeOf134 rfl (hu) rfl (by omega) ?_;refine o_load1I (wS rfl rfl hb8) rfl Tryz.isAgg134 rfl (hu.cellI (k := 0) rfl (by omega)) ?_;refine o_rem (wS rfl rfl hb8) rfl rfl rfl (by omega) ?_;refine gV hb8 ?_;refine oN ?_;exact joins rfl
  refine nT ?_;refine cC rfl (fun h1 => ?_) (fun h1 => ?_)
  ·
   have f1 := h1;try simp only [bl] at f1
   have hev := natW_even (n := m) (by omega)
   have hk64 : k < 32 * (natW n).length := by
     have h1 := val_lt (Wds_natW n)
     rw [val_natW, pow_bits] at h1
     have h2 : 2 ^ k ≤ n := by rw [he]; exact Nat.le_mul_of_pos_right _ hm0
     exact (Nat.pow_lt_pow_iff_right (by decide)).1 (Nat.lt_of_le_of_lt h2 h1)
   have hmm : m % 2 = 0 := by omega
   refine cK (tC (cB (sR ?_)));refine oV ?_;refine oI Tryz.call116 rfl (rSmall_any _ _ 2 hu hl (by decide) (by decide)) ?_;rintro _ I2 hx2 ⟨u2, rfl, hs2⟩;iterate 5 refine oV ?_
   refine nR ?_;refine oV ?_
   first | (refine o_add trivial rfl rfl rfl ?_ ?_; (omega)) | refine oV ?_
   refine oV ?_;refine oN (blk_n ?_)
   rw [val_natW] at hs2
   exact again (m / 2, k + 1, u2, I2) (sC rfl (sC rfl sN)) (fun _ h => h) (by show m / 2 < m; omega) ⟨by show 0 < m / 2; omega, by show n = 2 ^ (k + 1) * (m / 2); rw [he, Nat.pow_succ, Nat.mul_assoc]; congr 1; omega, hs2, Nat.le_trans (natW_le_len (Nat.div_le_self _ _)) hl, hx1.trans hx2 (Nat.le_refl _)⟩
  have f1 := h1;try simp only [bl] at f1
  refine c_exit (then_x (then_x (blk_eq rfl (tC (sR ?_)))));iterate 4 refine oV ?_
  refine nE ?_;refine ret2 rfl rfl rfl ?_
  have hev := natW_even (n := m) (by omega)
  exact leaf hx1 (List.nil_sublist _) ⟨u, m, k, rfl, hu, he, by omega⟩
theorem OddOf.pos {n x k : Nat} (h : OddOf n x k) : 0 < x := by have := h.odd; omega
theorem OddOf.le {n x k : Nat} (h : OddOf n x k) : x ≤ n := by rw [h.eq]; exact Nat.le_mul_of_pos_left _ (Nat.pow_pos (by decide))
theorem OddOf.pow_lt {n x k L : Nat} (h : OddOf n x k) (hL : (natW n).length ≤ L) : k < 32 * L := by
  have h1 := val_lt (Wds_natW n)
  rw [val_natW, pow_bits] at h1
  have h2 : 2 ^ k ≤ n := by rw [h.eq]; exact Nat.le_mul_of_pos_right _ h.pos
  have h3 := (Nat.pow_lt_pow_iff_right (by decide)).1 (Nat.lt_of_le_of_lt h2 h1)
  omega
theorem rGcd_any (va vb : Value) (A B : List Nat) {I : Hp} (ha : Ws I va A) (hb : Ws I vb B) (hs : A.length ≤ 3000) (hs2 : B.length ≤ 3000) : Fun Tryz.prog 174 [va, vb] I [] (fun v I' _ => Ws I' v (natW (Nat.gcd (val A) (val B)))) := by
  have hal : (natW (val A)).length ≤ 3000 := Nat.le_trans (natW_len_list ha.wds) hs
  have hbl : (natW (val B)).length ≤ 3000 := Nat.le_trans (natW_len_list hb.wds) hs2
  intro w hw
  refine enter2 _ Tryz.func174 rfl Tryz.ntmps174 rfl ?_ hw;refine sR ?_;refine oV ?_;refine nS ?_;refine oV ?_;refine oI Tryz.call115 rfl (rTrim_any _ _ ha (by omega)) ?_;rintro u1 I1 hx1 hs1;refine oV ?_;refine nS ?_;refine oV ?_;refine oI Tryz.call115 rfl (rTrim_any _ _ (hb.le hx1.le) (by omega)) ?_;rintro u2 I2 hx2 hs2';refine oV ?_;refine nU ?_;refine oV ?_;refine o_lenW trivial rfl Tryz.underlying33 rfl (hs1.le hx2.le) ?_;refine oV ?_;refine nT ?_;refine cC rfl (fun h1 => ?_) (fun h1 => ?_)
  ·
   have f1 := h1;try simp only [bl] at f1
   refine sR ?_;iterate 2 refine oV ?_
   refine nF ?_;refine ret1 rfl rfl ?_
   have h0 : val A = 0 := natW_len_zero.1 (by omega)
   refine leaf (hx1.trans hx2 (Nat.le_refl _)) (List.nil_sublist _) ?_; rw [h0, Nat.gcd_zero_left]; exact hs2'
  have f1 := h1;try simp only [bl] at f1
  refine cK (tC (cS (sR ?_)));refine oV ?_;refine o_lenW trivial rfl Tryz.underlying33 rfl (hs2') ?_;refine oV ?_;refine nT ?_;refine cC rfl (fun h2 => ?_) (fun h2 => ?_)
  ·
   have f2 := h2;try simp only [bl] at f2
   refine sR ?_;iterate 2 refine oV ?_
   refine nF ?_;refine ret1 rfl rfl ?_
   have h0 : val B = 0 := natW_len_zero.1 (by omega)
   refine leaf (hx1.trans hx2 (Nat.le_refl _)) (List.nil_sublist _) ?_; rw [h0, Nat.gcd_zero_right]; exact hs1.le hx2.le
  have f2 := h2;try simp only [bl] at f2
  have hA0 : 0 < val A := Nat.pos_of_ne_zero fun e => f1 (by rw [e, natW_zero]; rfl)
  have hB0 : 0 < val B := Nat.pos_of_ne_zero fun e => f2 (by rw [e, natW_zero]; rfl)
  refine kS ?_;refine oV ?_;refine oI Tryz.call201 rfl (rOdd_any _ _ (hs1.le hx2.le) (by omega) hA0) ?_;rintro _ I3 hx3 ⟨u3, x, n, rfl, hs3, ho3⟩;iterate 5 refine oV ?_
  refine oN (tC (cS ?_))
  have hn := ho3.pow_lt hal
  refine cR ?_;refine oV ?_;refine oI Tryz.call201 rfl (rOdd_any _ _ (hs2'.le hx3.le) (by omega) hB0) ?_;rintro _ I4 hx4 ⟨u4, y, k, rfl, hs4, ho4⟩;iterate 5 refine oV ?_
  refine oN (tC (cS (cB ?_)));refine c_loop (ι := Nat × Nat × Value × Value × Hp) [7, 8] (.cons rfl (.cons rfl .nil)) (fun t => t.1 + t.2.1) (fun t E0 => (5, t.2.2.1) :: (6, t.2.2.2.1) :: E0) (fun t => St w [] t.2.2.2.2 []) (fun t => t.1 % 2 = 1 ∧ t.2.1 % 2 = 1 ∧ Nat.gcd t.1 t.2.1 = Nat.gcd x y ∧ Ws t.2.2.2.2 t.2.2.1 (natW t.1) ∧ Ws t.2.2.2.2 t.2.2.2.1 (natW t.2.1) ∧ (natW t.1).length ≤ 3000 ∧ (natW t.2.1).length ≤ 3000 ∧ Ext w.heap.size I t.2.2.2.2) ((x, y, u3, u4, I4)) (sC rfl (sC rfl (sC rfl (sC rfl sN)))) (fun _ h => h) (⟨ho3.odd, ho4.odd, rfl, hs3.le hx4.le, hs4, Nat.le_trans (natW_le_len ho3.le) hal, Nat.le_trans (natW_le_len ho4.le) hbl, hx1.trans (hx2.trans (hx3.trans hx4 (Nat.le_refl _)) (Nat.le_refl _)) (Nat.le_refl _)⟩) ?_;rintro ⟨a, b, ua, ub, I5⟩ ⟨hao, hbo, hg, hua, hub, hla, hlb, hx5⟩
  try dsimp only
  simp only at hao hbo hg hua hub hla hlb hx5
  refine cS (sR ?_);iterate 2 refine oV ?_
  refine oQ Tryz.call179 rfl (rCmp_any _ _ _ _ hua hub (by omega) (by omega)) ?_;refine oV ?_;refine nT ?_;refine cC rfl (fun h3 => ?_) (fun h3 => ?_)
  ·
   have f3 := h3;try simp only [bl] at f3
   rw [val_natW, val_natW] at f3
   have hab : a ≠ b := fun e => f3 (by rw [e]; exact cmpZ_self _)
   refine cK (tC (cB ?_));refine c_cut (ι := Nat × Nat × Value × Value) [7, 8] (.cons rfl (.cons rfl .nil)) (fun t E0 => (5, t.2.2.1) :: (6, t.2.2.2) :: E0) (fun t => St w [] I5 []) (fun t => t.1 % 2 = 1 ∧ t.2.1 % 2 = 1 ∧ Nat.gcd t.1 t.2.1 = Nat.gcd x y ∧ Ws I5 t.2.2.1 (natW t.1) ∧ Ws I5 t.2.2.2 (natW t.2.1) ∧ (natW t.1).length ≤ 3000 ∧ (natW t.2.1).length ≤ 3000 ∧ t.2.1 < t.1 ∧ t.1 + t.2.1 = a + b) ?_ ?_
   ·
    refine sR ?_;iterate 2 refine oV ?_
    refine oQ Tryz.call179 rfl (rCmp_any _ _ _ _ hua hub (by omega) (by omega)) ?_;refine oV ?_;refine nT ?_;refine cC rfl (fun h4 => ?_) (fun h4 => ?_)
    ·
     have f4 := h4;try simp only [bl] at f4
     rw [val_natW, val_natW] at f4
     have hlt : a < b := by unfold cmpZ at f4; split at f4 <;> (try split at f4) <;> omega
     refine sR ?_;iterate 2 refine oV ?_
     refine nS ?_;iterate 2 refine oV ?_
     refine nR ?_;iterate 2 refine oV ?_
     refine oN ?_
     first | exact meet (b, a, ub, ua) (sC rfl (sC rfl (sC rfl (sC rfl sN)))) (fun _ h => h) ⟨hbo, hao, by rw [Nat.gcd_comm]; exact hg, hub, hua, hlb, hla, hlt, by show b + a = a + b; omega⟩ | exact meet (a, b, ua, ub) (sC rfl (sC rfl (sC rfl (sC rfl sN)))) (fun _ h => h) ⟨hao, hbo, hg, hua, hub, hla, hlb, by show b < a; omega, rfl⟩
    have f4 := h4;try simp only [bl] at f4
    rw [val_natW, val_natW] at f4
    have hlt : ¬ a < b := fun h => by rw [cmpZ_lt (by omega)] at f4; omega
    refine cK ?_
    first | exact meet (b, a, ub, ua) (sC rfl (sC rfl (sC rfl (sC rfl sN)))) (fun _ h => h) ⟨hbo, hao, by rw [Nat.gcd_comm]; exact hg, hub, hua, hlb, hla, hlt, by show b + a = a + b; omega⟩ | exact meet (a, b, ua, ub) (sC rfl (sC rfl (sC rfl (sC rfl sN)))) (fun _ h => h) ⟨hao, hbo, hg, hua, hub, hla, hlb, by show b < a; omega, rfl⟩
   rintro ⟨c, d, uc, ud⟩ ⟨hco, hdo, hg2, huc, hud, hlc, hld, hdc, hsum⟩
   try dsimp only
   refine cS ?_
   simp only at hco hdo hg2 huc hud hlc hld hdc hsum
   refine cR ?_;iterate 2 refine oV ?_
   refine oI Tryz.call180 rfl (rSub_any _ _ _ _ huc hud (by omega) (by omega) (by rw [val_natW, val_natW]; omega)) ?_;rintro _ I6 hx6 ⟨u6, rfl, hs6⟩;iterate 4 refine oV ?_
   refine nT ?_
   rw [val_natW, val_natW] at hs6
   have hl6 : (natW (c - d)).length ≤ 3000 := Nat.le_trans (natW_le_len (Nat.sub_le _ _)) hlc
   refine cR ?_;refine oV ?_;refine oI Tryz.call201 rfl (rOdd_any _ _ hs6 (by omega) (by omega)) ?_;rintro _ I7 hx7 ⟨u7, z, p, rfl, hs7, ho7⟩;iterate 4 refine oV ?_
   refine oN (blk_n ?_);exact again (z, d, u7, ud, I7) (sC rfl (sC rfl (sC rfl (sC rfl sN)))) (fun _ h => h) (by show z + d < a + b; have := ho7.le; omega) ⟨ho7.odd, hdo, by show Nat.gcd z d = _; rw [gcd_less hdo (by omega) ho7.eq]; exact hg2, hs7, hud.le (hx6.le.trans hx7.le), Nat.le_trans (natW_le_len ho7.le) hl6, hld, hx5.trans (hx6.trans hx7 (Nat.le_refl _)) (Nat.le_refl _)⟩
  have f3 := h3;try simp only [bl] at f3
  rw [val_natW, val_natW] at f3
  have hab : a = b := by have := cmpZ_zero f3; omega
  refine c_exit (then_x (then_x (blk_eq rfl (tC (sR ?_)))));iterate 3 refine oV ?_
  refine o_min2 trivial rfl rfl rfl ?_
  rw [show min (n : Int) (k : Int) = ((min n k : Nat) : Int) by omega]
  refine oI Tryz.call202 rfl (rShift_any _ _ (min n k) hua (by omega) (by omega)) ?_;rintro u8 I8 hx8 hs8;refine oV ?_;refine nE ?_;refine ret1 rfl rfl ?_;refine leaf (hx5.trans hx8 (Nat.le_refl _)) (List.nil_sublist _) ?_
  rw [val_natW] at hs8
  rw [ho3.eq, ho4.eq, gcd_twos ho3.odd ho4.odd, ← hg, ← hab, Nat.gcd_self]
  exact hs8
theorem rLowest_any (va vb : Value) (A B : List Nat) {I : Hp} (ha : Ws I va A) (hb : Ws I vb B) (hs : A.length ≤ 3000) (hs2 : B.length ≤ 3000) : Fun Tryz.prog 142 [va, vb] I [] (fun v I' _ => ∃ u1 u2, v = .tuple #[u1, u2, .bool (decide (val B ≠ 0))] ∧ (val B ≠ 0 → Ws I' u1 (natW (val A / Nat.gcd (val A) (val B))) ∧ Ws I' u2 (natW (val B / Nat.gcd (val A) (val B))))) := by
  have hbl : (natW (val B)).length ≤ 3000 := Nat.le_trans (natW_len_list hb.wds) hs2
  intro w hw
  refine enter2 _ Tryz.func142 rfl Tryz.ntmps142 rfl ?_ hw;refine sR ?_;iterate 3 refine oV ?_
  refine nS ?_;refine oV ?_;refine oI Tryz.call115 rfl (rTrim_any _ _ hb (by omega)) ?_;rintro u1 I1 hx1 hs1;refine oV ?_;refine nU ?_;refine oV ?_;refine o_lenW trivial rfl Tryz.underlying33 rfl (hs1) ?_;refine oV ?_;refine nT ?_;refine cC rfl (fun h1 => ?_) (fun h1 => ?_)
  ·
   have f1 := h1;try simp only [bl] at f1
   refine sR ?_;iterate 3 refine oV ?_
   refine nF ?_;refine ret3 rfl rfl rfl rfl ?_
   have h0 : val B = 0 := natW_len_zero.1 (by omega)
   refine leaf hx1 (List.nil_sublist _) ⟨.slice none 0 0, .slice none 0 0, ?_, fun h => absurd h0 h⟩; rw [decide_eq_false (not_not_intro h0)]
  have f1 := h1;try simp only [bl] at f1
  have h0 : 0 < val B := Nat.pos_of_ne_zero fun e => f1 (by rw [e, natW_zero]; rfl)
  have hg : 0 < Nat.gcd (val A) (val B) := Nat.gcd_pos_of_pos_right _ h0
  have hgl : (natW (Nat.gcd (val A) (val B))).length ≤ 3000 := Nat.le_trans (natW_le_len (Nat.gcd_le_right _ h0)) hbl
  refine kS ?_;iterate 2 refine oV ?_
  refine oI Tryz.call174 rfl (rGcd_any _ _ _ _ (ha.le hx1.le) hs1 hs (by omega)) ?_;rintro u2 I2 hx2 hs2';refine oV ?_;refine oN (tC (cS ?_))
  rw [val_natW] at hs2'
  refine cR ?_;iterate 2 refine oV ?_
  refine oI Tryz.call148 rfl (rDiv_any _ _ _ _ (ha.le (hx1.le.trans hx2.le)) hs2' (by omega) (by omega) (by rw [val_natW]; exact hg)) ?_;rintro _ I3 hx3 ⟨u3, u4, rfl, hq3, hr3⟩;iterate 7 refine oV ?_
  refine nS ?_;iterate 2 refine oV ?_
  refine oI Tryz.call148 rfl (rDiv_any _ _ _ _ (hs1.le (hx2.le.trans hx3.le)) (hs2'.le hx3.le) (by omega) (by omega) (by rw [val_natW]; exact hg)) ?_;rintro _ I4 hx4 ⟨u5, u6, rfl, hq5, hr5⟩;iterate 5 refine oV ?_
  refine nS ?_;iterate 5 refine oV ?_
  refine nE ?_;refine ret3 rfl rfl rfl rfl ?_
  rw [val_natW] at hq3
  rw [val_natW, val_natW] at hq5
  refine leaf (hx1.trans (hx2.trans (hx3.trans hx4 (Nat.le_refl _)) (Nat.le_refl _)) (Nat.le_refl _)) (List.nil_sublist _) ⟨u3, u5, ?_, fun _ => ⟨hq3.le hx4.le, hq5⟩⟩; rw [decide_eq_true (by omega)]; rfl
theorem strOf_app (a b : List Int) : strOf a ++ strOf b = strOf (a ++ b) := by
  unfold strOf; rw [List.map_append]; apply ByteArray.ext; simp
theorem decS_nil : decS 0 = ⟨#[48]⟩ := by
  unfold decS decL; rw [digs]; rfl
theorem rPrint_any (va : Value) (A : List Nat) {I : Hp} (ha : Ws I va A) (hs : A.length ≤ 35184372088400) : Fun Tryz.prog 78 [va] I [] (fun v _ _ => v = .string (decS (val A))) := by
  have hdl := digs_words ha.wds hs
  have hal : (natW (val A)).length ≤ 35184372088400 := Nat.le_trans (natW_len_list ha.wds) hs
  intro w hw
  refine enter1 _ Tryz.func78 rfl Tryz.ntmps78 rfl ?_ hw;refine sR ?_;refine oV ?_;refine nS ?_;refine oV ?_;refine oI Tryz.call115 rfl (rTrim_any _ _ ha (by omega)) ?_;rintro u1 I1 hx1 hs1;refine oV ?_;refine nU ?_;refine oV ?_;refine o_lenW trivial rfl Tryz.underlying33 rfl (hs1) ?_;refine oV ?_;refine nT ?_;refine cC rfl (fun h1 => ?_) (fun h1 => ?_)
  ·
   have f1 := h1;try simp only [bl] at f1
   refine sR ?_;refine oV ?_;refine nF ?_;refine ret1 rfl rfl ?_
   have h0 : val A = 0 := natW_len_zero.1 (by omega)
   refine leaf hx1 (List.nil_sublist _) (congrArg Value.string ?_); rw [h0, decS_nil]
  have f1 := h1;try simp only [bl] at f1
  have h0 : 0 < val A := Nat.pos_of_ne_zero fun e => f1 (by rw [e, natW_zero]; rfl)
  refine kS ?_;refine oV ?_;refine oN (tC (cS (cB ?_)));refine c_loop (ι := Nat × List Nat × Value × Hp) [] .nil (fun x => x.1) (fun x E0 => (3, x.2.2.1) :: (4, .string (strOf (x.2.1.reverse.map Int.ofNat))) :: E0) (fun x => St w [] x.2.2.2 []) (fun x => Ws x.2.2.2 x.2.2.1 (natW x.1) ∧ (natW x.1).length ≤ 35184372088400 ∧ x.2.1 ++ digRest x.1 x.2.1 = digs (val A) ∧ (x.1 = 0 → x.2.1 ≠ []) ∧ Ext w.heap.size I x.2.2.2) ((val A, [], u1, I1)) (sC rfl (sC rfl sN)) (fun _ h => h) (⟨hs1, hal, by simp [digRest], fun h => absurd h (by show val A ≠ 0; omega), hx1⟩) ?_;rintro ⟨m, L, u, I2⟩ ⟨hu, hl, hd, hne, hx2⟩
  try dsimp only
  simp only at hu hl hd hne hx2; have hol : L.length ≤ (digs (val A)).length := by rw [← hd, List.length_append]; omega
  refine cS (sR ?_);refine oV ?_;refine o_lenW trivial rfl Tryz.underlying33 rfl (hu) ?_;refine oV ?_;refine nT ?_;refine cC rfl (fun h2 => ?_) (fun h2 => ?_)
  ·
   have f2 := h2;try simp only [bl] at f2
   have hm0 : 0 < m := Nat.pos_of_ne_zero fun e => by rw [e, natW_zero] at f2; simp at f2
   rw [digs_step L (.inl hm0)] at hd
   have hsz : (strOf (L.reverse.map Int.ofNat)).size = L.length := by rw [strOf_size]; simp
   refine cK (tC (cB (sR ?_)));refine oV ?_;refine oI Tryz.call116 rfl (rSmall_any _ _ 10 hu hl (by decide) (by decide)) ?_;rintro _ I3 hx3 ⟨u3, rfl, hs3⟩;iterate 7 refine oV ?_
   refine nS ?_;refine oV ?_
   first | refine o_arA trivial rfl rfl rfl (by rw [IntWalk.u32_in _ (by omega)]) ?_ | refine oV ?_
   refine o_convIn trivial rfl Tryz.underlying134 Tryz.underlying5 rfl (by rw [IntWalk.u8_in _ (by omega)]) ?_;refine oB Tryz.underlying64 Tryz.sizeOf5 Tryz.zeroValue5 fun b25 => ?_;refine o_bytesStr (ns := [(48 : Int) + ((val (natW m) % 10 : Nat) : Int)]) trivial rfl Tryz.underlying64 Tryz.underlying5 Tryz.underlying9 rfl (by repeat constructor) rfl ?_;refine oV ?_;refine o_cat trivial rfl rfl rfl (by rw [strOf_size, hsz]; simp only [List.length_cons, List.length_nil]; omega) ?_;refine oV ?_;refine nR ?_;iterate 2 refine oV ?_
   refine oN (blk_n ?_)
   rw [val_natW] at hs3
   have e1 : strOf [(48 : Int) + ((val (natW m) % 10 : Nat) : Int)] ++ strOf (L.reverse.map Int.ofNat) = strOf ((L ++ [48 + m % 10]).reverse.map Int.ofNat) := by
     rw [strOf_app, val_natW, List.reverse_append]; rfl
   rw [e1]
   exact again (m / 10, L ++ [48 + m % 10], u3, I3) (sC rfl (sC rfl sN)) (fun _ h => h.drop (List.nil_sublist _)) (by show m / 10 < m; omega) ⟨hs3, Nat.le_trans (natW_le_len (Nat.div_le_self _ _)) hl, by show (L ++ [48 + m % 10]) ++ digRest (m / 10) (L ++ [48 + m % 10]) = _; rw [← hd]; simp, fun _ => by simp, hx2.trans hx3 (Nat.le_refl _)⟩
  have f2 := h2;try simp only [bl] at f2
  have hm0 : m = 0 := natW_len_zero.1 (by omega)
  refine c_exit (then_x (then_x (blk_eq rfl (tC (sR ?_)))));iterate 2 refine oV ?_
  refine nE ?_;refine ret1 rfl rfl ?_;refine leaf hx2 (List.nil_sublist _) (congrArg Value.string ?_)
  unfold digRest at hd
  rw [if_pos ⟨hm0, hne hm0⟩, List.append_nil] at hd
  unfold decS decL
  rw [← hd]
theorem rFix7_any (neg : Bool) (va : Value) (A : List Nat) {I : Hp} (ha : Ws I va A) (hs : A.length ≤ 100000) : Fun Tryz.prog 122 [.agg #[.bool neg, va]] I [] (fun v I' _ => IntV I' v (if neg then -(val A : Int) else val A)) := by
  intro w hw
  refine enter1 _ Tryz.func122 rfl Tryz.ntmps122 rfl ?_ hw;refine sR ?_;refine o_box trivial rfl rfl rfl (fun b1 => ?_);refine o_alloc trivial rfl Tryz.zeroValue132 rfl (fun b2 => ?_);refine nS ?_;refine oF 1 Tryz.underlying132 Tryz.sizeOf33 ?_;refine oL Tryz.isAgg33 ?_;refine oI Tryz.call115 rfl (rTrim_any _ _ ha (by omega)) ?_;rintro u1 I1 hx1 hs1;refine oV ?_;refine nS ?_;refine oF 0 Tryz.underlying132 Tryz.sizeOf4 ?_;refine oL Tryz.isAgg4 ?_;refine' o_and trivial trivial rfl rfl rfl rfl rfl rfl rfl rfl (fun hb9 => ?_) ?_;rotate_left
  ·
   have fb9 := hb9
   try simp only [bl] at fb9
   refine gV hb9 ?_;refine o_lenW (wS rfl rfl hb9) rfl Tryz.underlying33 rfl (hs1) ?_;refine gV hb9 ?_;refine oN ?_;exact joins rfl
  refine oV ?_;refine o_buildS trivial rfl (bld132) rfl (.cons rfl rfl rfl (by repeat constructor) (.cons rfl (by first | exact (Ws.cells1 (by assumption)).1 | exact (Slc.cells1 (by assumption)).1 | rfl) (by rfl) (by repeat constructor) .nil)) ?_;refine oS Tryz.sizeOf132 ?_;refine nE ?_;refine retR rfl (.agg Tryz.isAgg132 Tryz.sizeOf132 rfl (by repeat constructor) rfl .nil) ?_;refine leaf hx1 (List.nil_sublist _) ⟨u1, ?_, by rw [abs_of]; exact hs1⟩
  rw [← sign_of]
  have e : decide (((natW (val A)).length : Int) > 0) = decide (0 < val A) := by
    rw [decide_eq_decide]
    constructor
    · intro h; exact Nat.pos_of_ne_zero fun e => by rw [e, natW_zero] at h; simp at h
    · intro h; have := (natW_topB (n := val A) (by omega)).1; omega
  rw [e]; rfl
theorem natW_one : natW 1 = [1] := by rw [natW_pos (by decide), show 1 / 4294967296 = 0 from rfl, natW_zero]
theorem rlow_any (neg : Bool) (va vb : Value) (A B : List Nat) {I : Hp} (ha : Ws I va A) (hb : Ws I vb B) (hs : A.length ≤ 3000) (hs2 : B.length ≤ 3000) : Fun Tryz.prog 106 [.agg #[.bool neg, va], vb] I [] (fun v I' _ => RatV I' v (lowQ neg (val A) (val B))) := by
  intro w hw
  refine enter2 _ Tryz.func106 rfl Tryz.ntmps106 rfl ?_ hw;refine sR ?_;refine o_box trivial rfl rfl rfl (fun b2 => ?_);refine o_alloc trivial rfl Tryz.zeroValue35 rfl (fun b4 => ?_);refine nS ?_;refine oF 1 Tryz.underlying132 Tryz.sizeOf33 ?_;refine oL Tryz.isAgg33 ?_;refine oV ?_;refine oI Tryz.call142 rfl (rLowest_any _ _ _ _ ha hb hs hs2) ?_;rintro _ I1 hx1 ⟨u1, u2, rfl, hs1⟩;iterate 7 refine oV ?_
  refine nU ?_;iterate 2 refine oV ?_
  refine' o_or trivial trivial rfl rfl rfl rfl rfl rfl rfl rfl (fun hb18 => ?_) ?_;rotate_left
  ·
   have fb18 := hb18
   try simp only [bl] at fb18
   have hB : val B ≠ 0 := by simpa using hb18
   obtain ⟨hu1, hu2⟩ := hs1 hB
   refine gV hb18 ?_;refine o_lenW (wS rfl rfl hb18) rfl Tryz.underlying33 rfl (hu1) ?_;refine gV hb18 ?_;refine oN ?_;exact joins rfl
  refine nT ?_;refine cC rfl (fun h1 => ?_) (fun h1 => ?_)
  ·
   have f1 := h1;try simp only [bl] at f1
   have h0 : val B = 0 ∨ val A = 0 := by
     rcases f1 with f1 | f1
     · exact .inl (Decidable.not_not.1 f1)
     · by_cases hB : val B = 0
       · exact .inl hB
       · exact .inr (div_gcd_zero (natW_len_zero.1 (by omega)) hB)
   refine sR ?_;refine oB Tryz.underlying33 Tryz.sizeOf134 Tryz.zeroValue134 fun b23 => ?_;refine l_sealW [1] .here (Wds_cons (by decide) Wds_nil) (by unfold maxLen; simp) (fun I2 hx2 hs2' => ?_);refine o_buildS trivial rfl (bld35) rfl (.cons rfl (by first | exact (Ws.cells1 (by assumption)).1 | exact (Slc.cells1 (by assumption)).1 | rfl) (by rfl) (by repeat constructor) .nil) ?_;refine oS Tryz.sizeOf35 ?_;refine nF ?_;refine retR rfl (.agg Tryz.isAgg35 Tryz.sizeOf35 rfl (by repeat constructor) rfl .nil) ?_;refine leaf (hx1.trans hx2 (Nat.le_refl _)) (List.nil_sublist _) ?_
   rw [lowQ_zero h0]; exact RatV.zero (by rw [natW_one]; exact hs2')
  have f1 := h1;try simp only [bl] at f1
  have hB : val B ≠ 0 := fun e => f1.1 e
  obtain ⟨hu1, hu2⟩ := hs1 hB
  have hA : val A ≠ 0 := fun e => f1.2 (by rw [e, Nat.zero_div, natW_zero]; rfl)
  obtain ⟨e1, e2, e3⟩ := lowQ_parts (neg := neg) hA hB
  refine kS ?_;refine oF 0 Tryz.underlying132 Tryz.sizeOf4 ?_;refine oL Tryz.isAgg4 ?_;iterate 2 refine oV ?_
  refine o_buildS trivial rfl (bld35) rfl (.cons rfl rfl rfl (by repeat constructor) (.cons rfl (by first | exact (Ws.cells1 (by assumption)).1 | exact (Slc.cells1 (by assumption)).1 | rfl) (by rfl) (by repeat constructor) (.cons rfl (by first | exact (Ws.cells1 (by assumption)).1 | exact (Slc.cells1 (by assumption)).1 | rfl) (by rfl) (by repeat constructor) .nil))) ?_;refine oS Tryz.sizeOf35 ?_;refine nE ?_;refine retR rfl (.agg Tryz.isAgg35 Tryz.sizeOf35 rfl (by repeat constructor) rfl .nil) ?_;refine leaf hx1 (List.nil_sublist _) ⟨u1, u2, ?_, ?_, ?_⟩
  · rw [e3]; rfl
  · rw [e1]; exact hu1
  · rw [e2]; exact hu2
theorem rFix_any (neg : Bool) (va vb : Value) (A B : List Nat) {I : Hp} (ha : Ws I va A) (hb : Ws I vb B) (hs : A.length ≤ 3000) (hs2 : B.length ≤ 3000) : Fun Tryz.prog 83 [.agg #[.bool neg, va, vb]] I [] (fun v I' _ => RatV I' v (lowQ neg (val A) (val B))) := by
  intro w hw
  refine enter1 _ Tryz.func83 rfl Tryz.ntmps83 rfl ?_ hw;refine sR ?_;refine o_box trivial rfl rfl rfl (fun b1 => ?_);refine o_alloc trivial rfl Tryz.zeroValue35 rfl (fun b2 => ?_);refine nS ?_;refine oF 0 Tryz.underlying35 Tryz.sizeOf4 ?_;refine oL Tryz.isAgg4 ?_;refine oF 1 Tryz.underlying35 Tryz.sizeOf33 ?_;refine oL Tryz.isAgg33 ?_;refine o_buildS trivial rfl (bld132) rfl (.cons rfl rfl rfl (by repeat constructor) (.cons rfl (by first | exact (Ws.cells1 (by assumption)).1 | exact (Slc.cells1 (by assumption)).1 | rfl) (by rfl) (by repeat constructor) .nil)) ?_;refine oF 2 Tryz.underlying35 Tryz.sizeOf33 ?_;refine oL Tryz.isAgg33 ?_;refine oI Tryz.call106 rfl (rlow_any neg _ _ _ _ ha hb hs hs2) ?_;rintro _ I1 hx1 ⟨u1, u2, rfl, h1, h2⟩;refine oS Tryz.sizeOf35 ?_;refine nE ?_;refine retR rfl (.agg Tryz.isAgg35 Tryz.sizeOf35 rfl (by repeat constructor) rfl .nil) ?_;exact leaf hx1 (List.nil_sublist _) ⟨u1, u2, rfl, h1, h2⟩
theorem rFixQ_any (q : Rat) (va vb : Value) {I : Hp} (ha : Ws I va (natW q.num.natAbs)) (hb : Ws I vb (natW q.den)) (hk : Few 3000 q) : Fun Tryz.prog 83 [.agg #[.bool (decide (q.num < 0)), va, vb]] I [] (fun v I' _ => RatV I' v q) := by
  have h := rFix_any (decide (q.num < 0)) va vb _ _ ha hb (natW_few hk.num (Nat.le_refl _)) (natW_few hk.den (Nat.le_refl _))
  rw [val_natW, val_natW, lowQ_self] at h
  exact h
theorem rEqual_any (s1 s2 : Bool) (va vb vc vd : Value) (A B C D : List Nat) {I : Hp} (ha : Ws I va A) (hb : Ws I vb B) (hc : Ws I vc C) (hd : Ws I vd D) : Fun Tryz.prog 67 [.agg #[.bool s1, va, vb], .agg #[.bool s2, vc, vd]] I [] (fun v _ _ => v = .bool (decide (s1 = s2) && decide (A = C) && decide (B = D))) := by
  intro w hw
  refine enter2 _ Tryz.func67 rfl Tryz.ntmps67 rfl ?_ hw;refine sR ?_;refine o_box trivial rfl rfl rfl (fun b2 => ?_);refine o_box trivial rfl rfl rfl (fun b3 => ?_);refine oV ?_;refine nS ?_;refine oF 0 Tryz.underlying35 Tryz.sizeOf4 ?_;refine oL Tryz.isAgg4 ?_;refine oF 0 Tryz.underlying35 Tryz.sizeOf4 ?_;refine oL Tryz.isAgg4 ?_;refine o_eqlB trivial rfl rfl rfl Tryz.underlying4 ?_;refine' o_and trivial trivial rfl rfl rfl rfl rfl rfl rfl rfl (fun hb10 => ?_) ?_;rotate_left
  ·
   have fb10 := hb10
   try simp only [bl] at fb10
   refine gF hb10 1 Tryz.underlying35 Tryz.sizeOf33 ?_;refine gL hb10 Tryz.isAgg33 ?_;refine gF hb10 1 Tryz.underlying35 Tryz.sizeOf33 ?_;refine gL hb10 Tryz.isAgg33 ?_;refine o_callQ (wS rfl rfl hb10) rfl Tryz.call85 rfl (rWords_any _ _ _ _ ha hc) ?_;refine oN ?_;exact joins rfl
  refine' o_and trivial trivial rfl rfl rfl rfl rfl rfl rfl rfl (fun hb17 => ?_) ?_;rotate_left
  ·
   have fb17 := hb17
   try simp only [bl] at fb17
   refine gF hb17 2 Tryz.underlying35 Tryz.sizeOf33 ?_;refine gL hb17 Tryz.isAgg33 ?_;refine gF hb17 2 Tryz.underlying35 Tryz.sizeOf33 ?_;refine gL hb17 Tryz.isAgg33 ?_;refine o_callQ (wS rfl rfl hb17) rfl Tryz.call85 rfl (rWords_any _ _ _ _ hb hd) ?_;refine oN ?_;exact joins rfl
  refine oV ?_;refine nE ?_;refine ret1 rfl rfl ?_;refine leaf0 (congrArg Value.bool ?_)
  congr 2
theorem rRight_any (neg : Bool) (va vb : Value) (A B : List Nat) {I : Hp} (ha : Ws I va A) (hb : Ws I vb B) (hs : A.length ≤ 3000) (hs2 : B.length ≤ 3000) : Fun Tryz.prog 77 [.agg #[.bool neg, va, vb]] I [] (fun v _ _ => v = .bool (ratRight neg A B)) := by
  intro w hw
  refine enter1 _ Tryz.func77 rfl Tryz.ntmps77 rfl ?_ hw;refine sR ?_;refine o_box trivial rfl rfl rfl (fun b1 => ?_);refine oV ?_;refine oN (tC (cS ?_));refine h_beginB (m := 5) [.box b1 _] (by repeat constructor) (by kernel_rfl) rfl ?_;refine qT (i := 0) (qB 5 1) (Hp.Le.refl _) rfl rfl (oA Tryz.isAgg35 Tryz.sizeOf35 qF) ?_;refine qT (i := 2) (qB 5 5) (Hp.Le.refl _) rfl rfl (oA Tryz.isAgg35 Tryz.sizeOf35 qF) ?_;refine qO (i := 1) (qB 5 7) rfl ?_;refine oI Tryz.call83 rfl (rFix_any neg _ _ _ _ ha hb hs hs2) ?_;rintro _ I1 hx1 ⟨u1, u2, rfl, h1, h2⟩;refine qM (hx1.le) ?_;refine qO (i := 3) (qB 5 15) rfl ?_;refine oQ Tryz.call67 rfl (rEqual_any _ neg _ _ _ _ _ _ A B h1 h2 (ha.le hx1.le) (hb.le hx1.le)) ?_;refine qM (hx1.le) ?_;refine qT (i := 4) (qB 5 31) (hx1.le) rfl rfl (oV qF) ?_;refine h_end (by kernel_rfl) ?_;refine tC (cT ?_);refine ret1 rfl rfl ?_;refine leaf hx1 (List.nil_sublist _) (congrArg Value.bool ?_)
  unfold ratRight
  rw [Bool.eq_iff_iff]
  simp only [Bool.and_eq_true, decide_eq_true_eq]
  constructor <;> (rintro ⟨⟨k1, k2⟩, k3⟩; exact ⟨⟨k1.symm, k2.symm⟩, k3.symm⟩)
def isR (bad : Bool) (L : List Tok) (i : Nat) (k : Int) (s : ByteArray) : Bool := !bad && hdT (L.drop i) k s
theorem add_none {L : List Tok} {j : Nat} (h : (isR false L j 2 plusS || isR false L j 2 minusS) = false) : hdK addK (L.drop j) = none := by
  unfold isR at h
  simp only [Bool.not_false, Bool.true_and, Bool.or_eq_false_iff] at h
  cases hr : L.drop j with
  | nil => rfl
  | cons x r =>
    rw [hr] at h
    simp only [hdT] at h
    show addK x = none
    unfold addK
    rw [h.1, h.2]; rfl
def LowN (l : List NodeC) : Prop := ∀ (i : Nat) (c : NodeC), l[i]? = some c → 1 < c.kind → 0 ≤ c.a ∧ c.a < i ∧ (c.kind ≤ 5 → 0 ≤ c.b ∧ c.b < i)
theorem nd_low : ∀ (x : Ex) (b j : Nat) (c : NodeC), x.ok → (x.nd b)[j]? = some c → 1 < c.kind → (b : Int) ≤ c.a ∧ c.a < (b + j : Nat) ∧ (c.kind ≤ 5 → (b : Int) ≤ c.b ∧ c.b < (b + j : Nat)) := by
  intro x
  have last : ∀ {u : List NodeC} {c0 c : NodeC} {j : Nat}, (u ++ [c0])[j]? = some c → ¬ j < u.length → j = u.length ∧ c = c0 := by
    intro u c0 c j h hj
    rw [List.getElem?_append_right (by omega)] at h
    have := (List.getElem?_eq_some_iff.1 h)
    obtain ⟨h1, h2⟩ := this
    simp at h1 h2
    exact ⟨by omega, h2.symm⟩
  induction x with
  | ref t =>
    intro b j c _ h hk
    have : c = refN t := by
      obtain ⟨h1, h2⟩ := List.getElem?_eq_some_iff.1 h
      simp [Ex.nd] at h2; exact h2.symm
    subst this
    exact absurd hk (by simp [refN])
  | num q =>
    intro b j c _ h hk
    have : c = numN q := by
      obtain ⟨h1, h2⟩ := List.getElem?_eq_some_iff.1 h
      simp [Ex.nd] at h2; exact h2.symm
    subst this
    exact absurd hk (by simp [numN])
  | neg x ih =>
    intro b j c hok h hk
    have hp := x.n_pos
    have hl := x.nd_len b
    by_cases hj : j < (x.nd b).length
    · simp only [Ex.nd] at h
      rw [List.getElem?_append_left hj] at h
      exact ih b j c hok h hk
    · obtain ⟨e1, e2⟩ := last h hj
      subst e2
      refine ⟨?_, ?_, ?_⟩
      · show (b : Int) ≤ (b : Int) + x.n - 1; omega
      · show (b : Int) + x.n - 1 < _; omega
      · intro h5; exact absurd h5 (by show ¬ (6 : Int) ≤ 5; decide)
  | pow x e ih =>
    intro b j c hok h hk
    have hp := x.n_pos
    have hl := x.nd_len b
    by_cases hj : j < (x.nd b).length
    · simp only [Ex.nd] at h
      rw [List.getElem?_append_left hj] at h
      exact ih b j c hok.1 h hk
    · obtain ⟨e1, e2⟩ := last h hj
      subst e2
      refine ⟨?_, ?_, ?_⟩
      · show (b : Int) ≤ (b : Int) + x.n - 1; omega
      · show (b : Int) + x.n - 1 < _; omega
      · intro h5; exact absurd h5 (by show ¬ (7 : Int) ≤ 5; decide)
  | bin k x y ih1 ih2 =>
    intro b j c hok h hk
    have hp := x.n_pos
    have hp2 := y.n_pos
    have hl := x.nd_len b
    have hl2 := y.nd_len (b + x.n)
    by_cases hj : j < (x.nd b ++ y.nd (b + x.n)).length
    · simp only [Ex.nd] at h
      rw [List.getElem?_append_left hj] at h
      by_cases hx : j < (x.nd b).length
      · rw [List.getElem?_append_left hx] at h
        exact ih1 b j c hok.2.2.1 h hk
      · rw [List.getElem?_append_right (by omega)] at h
        have := ih2 (b + x.n) _ c hok.2.2.2 h hk
        refine ⟨by omega, by omega, fun h5 => ?_⟩
        have := this.2.2 h5
        omega
    · obtain ⟨e1, e2⟩ := last h hj
      rw [List.length_append] at e1
      subst e2
      refine ⟨?_, ?_, fun _ => ⟨?_, ?_⟩⟩
      · show (b : Int) ≤ (b : Int) + x.n - 1; omega
      · show (b : Int) + x.n - 1 < _; omega
      · show (b : Int) ≤ (b : Int) + x.n + y.n - 1; omega
      · show (b : Int) + x.n + y.n - 1 < _; omega
theorem laid_low : ∀ (l : List (ByteArray × Ex)) (b j : Nat) (c : NodeC), LetsOk l → (laid l b).2[j]? = some c → 1 < c.kind → (b : Int) ≤ c.a ∧ c.a < (b + j : Nat) ∧ (c.kind ≤ 5 → (b : Int) ≤ c.b ∧ c.b < (b + j : Nat))
  | [], _, _, _, _, h, _ => by cases h
  | (s, x) :: l, b, j, c, hok, h, hk => by
    simp only [laid] at h
    have hl := x.nd_len b
    by_cases hx : j < (x.nd b).length
    · rw [List.getElem?_append_left hx] at h
      exact nd_low x b j c (hok (s, x) (by simp)).2 h hk
    · rw [List.getElem?_append_right (by omega)] at h
      have := laid_low l (b + x.n) _ c (fun a ha => hok a (by simp [ha])) h hk
      refine ⟨by omega, by omega, fun h5 => ?_⟩
      have := this.2.2 h5
      omega
theorem shaped_low {p : ProgC} {l : List (ByteArray × Ex)} (h : Shaped p l) : LowN p.all := fun i c hc hk => by
  rw [h.all] at hc
  have := laid_low l 0 i c h.ok hc hk
  refine ⟨by omega, by omega, fun h5 => ?_⟩
  have := this.2.2 h5
  omega
theorem tall_fuel {l : List NodeC} (h : LowN l) : ∀ (i f g : Nat), i < f → i < g → tallZ l f i = tallZ l g i := by
  intro i
  induction i using Nat.strongRecOn with
  | ind i ih =>
    intro f g hf hg
    obtain ⟨f, rfl⟩ : ∃ k, f = k + 1 := ⟨f - 1, by omega⟩
    obtain ⟨g, rfl⟩ : ∃ k, g = k + 1 := ⟨g - 1, by omega⟩
    unfold tallZ
    rw [Int.toNat_natCast]
    cases hc : l[i]? with
    | none => rfl
    | some c =>
      dsimp only
      by_cases h1 : c.kind ≤ 1
      · rw [if_pos h1, if_pos h1]
      · obtain ⟨a1, a2, a3⟩ := h i c hc (by omega)
        have ea : c.a = (c.a.toNat : Int) := by omega
        rw [if_neg h1, if_neg h1]
        by_cases h5 : c.kind ≤ 5
        · obtain ⟨b1, b2⟩ := a3 h5
          have eb : c.b = (c.b.toNat : Int) := by omega
          rw [if_pos h5, if_pos h5, ea, eb, ih c.a.toNat (by omega) f g (by omega) (by omega), ih c.b.toNat (by omega) f g (by omega) (by omega)]
        · rw [if_neg h5, if_neg h5, ea, ih c.a.toNat (by omega) f g (by omega) (by omega)]
theorem tall_le {l : List NodeC} (h : LowN l) : ∀ (i f : Nat), i < f → tallZ l f i ≤ i + 1 := by
  intro i
  induction i using Nat.strongRecOn with
  | ind i ih =>
    intro f hf
    obtain ⟨f, rfl⟩ : ∃ k, f = k + 1 := ⟨f - 1, by omega⟩
    unfold tallZ
    rw [Int.toNat_natCast]
    cases hc : l[i]? with
    | none => exact Nat.zero_le _
    | some c =>
      dsimp only
      by_cases h1 : c.kind ≤ 1
      · rw [if_pos h1]; omega
      · obtain ⟨a1, a2, a3⟩ := h i c hc (by omega)
        have ea : c.a = (c.a.toNat : Int) := by omega
        have := ih c.a.toNat (by omega) f (by omega)
        rw [if_neg h1]
        by_cases h5 : c.kind ≤ 5
        · obtain ⟨b1, b2⟩ := a3 h5
          have eb : c.b = (c.b.toNat : Int) := by omega
          have := ih c.b.toNat (by omega) f (by omega)
          rw [if_pos h5, ea, eb]
          omega
        · rw [if_neg h5, ea]; omega
def heightsZ (l : List NodeC) : List Nat := (List.range l.length).map fun (i : Nat) => tallZ l l.length (i : Int)
theorem heightsZ_len (l : List NodeC) : (heightsZ l).length = l.length := by simp [heightsZ]
theorem tall_laid (all : List NodeC) : ∀ (l : List (ByteArray × Ex)) (b f : Nat), LetsOk l → (∀ j c, (laid l b).2[j]? = some c → all[b + j]? = some c) → b + (laid l b).2.length ≤ f → ∀ j, j < (laid l b).2.length → some (tallZ all f ((b + j : Nat) : Int)) = (hsAll l)[j]?
  | [], b, f, _, _, _, j, hj => by cases hj
  | (s, x) :: l, b, f, hok, h, hf, j, hj => by
    have hx := (hok (s, x) (by simp)).2
    have hl := x.nd_len b
    simp only [laid] at h hf hj
    rw [List.length_append, hl] at hf hj
    have hA : At all b x := At.left h (u := x.nd b) rfl
    have hR := At.right h (u := x.nd b) rfl
    rw [hl] at hR
    have e : hsAll ((s, x) :: l) = x.hs ++ hsAll l := by simp [hsAll]
    rw [e]
    by_cases hjx : j < x.n
    · rw [List.getElem?_append_left (by rw [x.hs_len]; exact hjx)]
      exact tall_all x hx hA (by omega) j hjx
    · rw [List.getElem?_append_right (by rw [x.hs_len]; omega), x.hs_len]
      have := tall_laid all l (b + x.n) f (fun a ha => hok a (by simp [ha])) hR (by omega) (j - x.n) (by omega)
      rw [← this, show b + x.n + (j - x.n) = b + j by omega]
theorem heights_laid {p : ProgC} {l : List (ByteArray × Ex)} (h : Shaped p l) : heightsZ p.all = hsAll l := by
  have hlen : p.all.length = (hsAll l).length := by rw [h.all, laid_len]
  apply List.ext_getElem?
  intro j
  by_cases hj : j < p.all.length
  · have := tall_laid p.all l 0 p.all.length h.ok (fun j c hc => by rw [h.all, Nat.zero_add]; exact hc) (by rw [h.all]; omega) j (by rw [← h.all]; exact hj)
    rw [Nat.zero_add] at this
    rw [← this]
    simp [heightsZ, hj]
  · rw [List.getElem?_eq_none (by rw [heightsZ_len]; omega), List.getElem?_eq_none (by omega)]
def longZ (p : ProgC) : Bool := decide (400 < p.all.length) || decide (40 < p.ins.length) || decide (40 < p.lets.length) || decide (40 < p.outs.length) || (heightsZ p.all).any fun h => decide (60 < h)
theorem long_right {p : ProgC} {l : List (ByteArray × Ex)} (h : Shaped p l) (hi : NamesOk p.ins ∧ 1 ≤ p.ins.length) (ho : NamesOk p.outs ∧ 1 ≤ p.outs.length) : (tZ p).isSome = !longZ p := by
  have hlets : p.lets.length = l.length := by rw [h.lets, laid_lets]
  rw [Bool.eq_iff_iff, tZ_iff, Bool.not_eq_true']
  unfold longZ
  simp only [Bool.or_eq_false_iff, decide_eq_false_iff_not, List.any_eq_false, decide_eq_true_eq]
  constructor
  · rintro ⟨l', hr⟩
    have hl' : p.lets.length = l'.length := by rw [hr.lets, laid_lets]
    refine ⟨⟨⟨⟨by have := hr.few.2; omega, by have := hr.ins.2.2; omega⟩, by have := hr.few.1; omega⟩, by have := hr.outs.2.2; omega⟩, fun k hk => ?_⟩
    rw [heights_laid hr.toShaped] at hk
    have := hsAll_mem.2 hr.low k hk
    omega
  · rintro ⟨⟨⟨⟨c1, c2⟩, c3⟩, c4⟩, c5⟩
    refine ⟨l, ⟨h, ⟨hi.1, hi.2, by omega⟩, ⟨ho.1, ho.2, by omega⟩, ⟨by omega, by omega⟩, ?_⟩⟩;refine hsAll_mem.1 fun k hk => ?_
    rw [← heights_laid h] at hk
    have := c5 k hk
    omega
theorem rrTall_any (va : Value) (ns : List NodeV) {I : Hp} (hsa : Slc I 8 va (nds ns)) (hok : ∀ o ∈ ns, o.ok I) (hlow : LowN (ns.map NodeV.c)) (hn : ns.length ≤ 100000) : ∀ i : Nat, i < ns.length → Fun Tryz.prog 121 [va, .int .i64 (i : Nat)] I [] (fun v _ _ => v = .int .i64 ((tallZ (ns.map NodeV.c) (ns.length) (i : Int) : Nat) : Int)) := by
  intro i
  have hln := nds_len ns
  induction i using Nat.strongRecOn with
  | ind i ih =>
    intro hi
    obtain ⟨o, ho⟩ : ∃ o, ns[i]? = some o := ⟨ns[i]'hi, List.getElem?_eq_getElem hi⟩
    have hoc : (ns.map NodeV.c)[i]? = some o.c := by rw [List.getElem?_map, ho]; rfl
    have hom := List.mem_of_getElem? ho
    have hw1 : Ws I o.vn o.c.n := (hok o hom).1
    have hw2 : Ws I o.vd o.c.d := (hok o hom).2
    have hlo := hlow i o.c hoc
    obtain ⟨f, hf⟩ : ∃ f, ns.length = f + 1 := ⟨ns.length - 1, by omega⟩
    have htz : tallZ (ns.map NodeV.c) ns.length (i : Int) = if o.c.kind ≤ 1 then 1 else if o.c.kind ≤ 5 then 1 + max (tallZ (ns.map NodeV.c) f o.c.a) (tallZ (ns.map NodeV.c) f o.c.b) else 1 + tallZ (ns.map NodeV.c) f o.c.a := by
      rw [hf]
      conv => lhs; unfold tallZ
      rw [Int.toNat_natCast, hoc]
    have hta : 1 < o.c.kind → tallZ (ns.map NodeV.c) f o.c.a = tallZ (ns.map NodeV.c) ns.length o.c.a := fun hk => by
      obtain ⟨a1, a2, _⟩ := hlo hk
      have ea : o.c.a = (o.c.a.toNat : Int) := by omega
      rw [ea]
      exact tall_fuel hlow _ _ _ (by omega) (by omega)
    have htb : 1 < o.c.kind → o.c.kind ≤ 5 → tallZ (ns.map NodeV.c) f o.c.b = tallZ (ns.map NodeV.c) ns.length o.c.b := fun hk h5 => by
      obtain ⟨a1, a2, a3⟩ := hlo hk
      obtain ⟨b1, b2⟩ := a3 h5
      have eb : o.c.b = (o.c.b.toNat : Int) := by omega
      rw [eb]
      exact tall_fuel hlow _ _ _ (by omega) (by omega)
    have hca : 1 < o.c.kind → (Fun Tryz.prog 121 [va, .int .i64 o.c.a] I [] (fun v _ _ => v = .int .i64 ((tallZ (ns.map NodeV.c) (ns.length) o.c.a : Nat) : Int))) ∧ tallZ (ns.map NodeV.c) (ns.length) o.c.a ≤ 100000 := fun hk => by
      obtain ⟨a1, a2, _⟩ := hlo hk
      have ea : o.c.a = (o.c.a.toNat : Int) := by omega
      rw [ea]
      exact ⟨ih _ (by omega) (by omega), by have := tall_le hlow o.c.a.toNat ns.length (by omega); omega⟩
    have hcb : 1 < o.c.kind → o.c.kind ≤ 5 → (Fun Tryz.prog 121 [va, .int .i64 o.c.b] I [] (fun v _ _ => v = .int .i64 ((tallZ (ns.map NodeV.c) (ns.length) o.c.b : Nat) : Int))) ∧ tallZ (ns.map NodeV.c) (ns.length) o.c.b ≤ 100000 := fun hk h5 => by
      obtain ⟨a1, a2, a3⟩ := hlo hk
      obtain ⟨b1, b2⟩ := a3 h5
      have eb : o.c.b = (o.c.b.toNat : Int) := by omega
      rw [eb]
      exact ⟨ih _ (by omega) (by omega), by have := tall_le hlow o.c.b.toNat ns.length (by omega); omega⟩
    intro w hw
    refine enter2 _ Tryz.func121 rfl Tryz.ntmps121 rfl ?_ hw;refine sR ?_;refine oV ?_;refine nS ?_;iterate 2 refine oV ?_
    refine o_elem trivial rfl Tryz.underlying24 Tryz.sizeOf37 rfl (hsa) rfl (by omega) ?_;refine o_loadAI trivial rfl Tryz.isAgg37 Tryz.sizeOf37 rfl rfl (nds_at hsa ho) ?_;refine o_alloc trivial rfl Tryz.zeroValue37 rfl (fun b5 => ?_);refine oS Tryz.sizeOf37 ?_;refine oN (tC (cS (cB (sR ?_))));refine oF 0 Tryz.underlying37 Tryz.sizeOf3 ?_;refine oL Tryz.isAgg3 ?_;iterate 2 refine oV ?_
    refine nT ?_;refine cC rfl (fun h1 => ?_) (fun h1 => ?_)
    ·
     have f1 := h1;try simp only [bl] at f1
     refine sR ?_;refine oV ?_;refine oN (tC (cT (blk_r (tR ?_))));refine ret1 rfl rfl ?_;refine leaf0 (congrArg (Value.int .i64) ?_); rw [htz, if_pos (by omega)]; rfl
    have f1 := h1;try simp only [bl] at f1
    obtain ⟨ca, cal⟩ := hca (by omega)
    refine sR ?_;refine oF 0 Tryz.underlying37 Tryz.sizeOf3 ?_;refine oL Tryz.isAgg3 ?_;iterate 2 refine oV ?_
    refine nT ?_;refine cC rfl (fun h2 => ?_) (fun h2 => ?_)
    ·
     have f2 := h2;try simp only [bl] at f2
     obtain ⟨cb, cbl⟩ := hcb (by omega) (by omega)
     refine cS ?_;refine c_quiet (by kernel_rfl) (by kernel_rfl) (fun _ h => h.drawn) ?_;refine oV ?_;refine oF 1 Tryz.underlying37 Tryz.sizeOf3 ?_;refine oL Tryz.isAgg3 ?_;refine oQ Tryz.call121 rfl ca ?_;refine oV ?_;refine oF 2 Tryz.underlying37 Tryz.sizeOf3 ?_;refine oL Tryz.isAgg3 ?_;refine oQ Tryz.call121 rfl cb ?_;refine o_max2 trivial rfl rfl rfl ?_
     first | (refine o_add trivial rfl rfl rfl ?_ ?_; (omega)) | refine oV ?_
     refine oV ?_;refine oN (tC (cT (blk_r (tR ?_))));refine ret1 rfl rfl ?_;refine leaf0 (congrArg (Value.int .i64) ?_); rw [htz, if_neg (by omega), if_pos (by omega), hta (by omega), htb (by omega) (by omega)]; omega
    have f2 := h2;try simp only [bl] at f2
    refine cK (blk_n (tC (sR ?_)));refine oV ?_;refine oF 1 Tryz.underlying37 Tryz.sizeOf3 ?_;refine oL Tryz.isAgg3 ?_;refine oQ Tryz.call121 rfl ca ?_
    first | (refine o_add trivial rfl rfl rfl ?_ ?_; (omega)) | refine oV ?_
    refine oV ?_;refine nE ?_;refine ret1 rfl rfl ?_;refine leaf0 (congrArg (Value.int .i64) ?_); rw [htz, if_neg (by omega), if_neg (by omega), hta (by omega)]; omega
theorem rrHeights_any (vi vl vo va : Value) (p : ProgC) (ns : List NodeV) {I : Hp} (hp : ProgV I vi vl vo va p ns) (hlow : LowN p.all) (hn : ns.length ≤ 100000) :
    Fun Tryz.prog 82 [.agg #[vi, vl, vo, va]] I [] (fun v I' _ => Slc I' 1 v (nss (heightsZ p.all))) := by
  have hsi := hp.si
  have hsl := hp.sl
  have hso := hp.so
  have hsa := hp.sa
  have hla := nds_len ns
  have hal : p.all.length = ns.length := by rw [← hp.eq, List.length_map]
  rw [← hp.eq] at hlow
  have hhz := heightsZ_len p.all
  have hget : ∀ i, i < ns.length → (heightsZ p.all)[i]? = some (tallZ (ns.map NodeV.c) ns.length (i : Int)) := fun i hi => by
    unfold heightsZ
    rw [List.getElem?_map, List.getElem?_range (by omega), hp.eq, hal]; rfl
  intro w hw
  refine enter1 _ Tryz.func82 rfl Tryz.ntmps82 rfl ?_ hw;refine sR ?_;refine o_box trivial rfl rfl rfl (fun b1 => ?_);refine oV ?_;refine nS ?_;refine oV ?_;refine nU ?_;refine oV ?_;refine oN (tC (cB ?_));refine c_loop (ι := Nat × Value) [1] (.cons rfl .nil) (fun x => ns.length - x.1) (fun x E0 => (3, x.2) :: (4, .int .i64 (x.1 : Int)) :: E0) (fun x => St w [] I [.row x.2 3 1 x.1 (nvs ((heightsZ p.all).take x.1)), .box b1 (.cells #[vi, vl, vo, va] 26 (0, 0))]) (fun x => x.1 ≤ ns.length) ((0, .slice none 0 0)) (sC rfl (sC rfl (sC rfl sN))) (fun _ h => (h.nilRow _ _).sort (by repeat constructor)) (Nat.zero_le _) ?_;rintro ⟨i, uo⟩ hi
  try dsimp only
  simp only at hi
  refine cS (sR ?_);refine oV ?_;refine oF 3 Tryz.underlying26 Tryz.sizeOf24 ?_;refine oL Tryz.isAgg24 ?_;refine o_lenSlc trivial rfl Tryz.underlying24 rfl (hsa) ?_;refine oV ?_;refine nT ?_;refine cC rfl (fun h1 => ?_) (fun h1 => ?_)
  ·
   have f1 := h1;try simp only [bl] at f1
   have hg := hget i (by omega)
   refine cK (tC (cS (cB (cR ?_))));refine oV ?_;refine oF 3 Tryz.underlying26 Tryz.sizeOf24 ?_;refine oL Tryz.isAgg24 ?_;refine oV ?_;refine oQ Tryz.call121 rfl (rrTall_any va ns hsa hp.ok hlow hn i (by omega)) ?_;refine oB Tryz.underlying52 Tryz.sizeOf3 Tryz.zeroValue3 fun b17 => ?_;refine oD Tryz.underlying52 elem3 fun v18 => ?_;refine oV ?_;refine oN (blk_n (tC (cR ?_)));refine oV ?_
   first | (refine o_add trivial rfl rfl rfl ?_ ?_; (omega)) | refine oV ?_
   refine oV ?_;refine oN ?_;exact again (i + 1, v18) (sC rfl (sC rfl (sC rfl sN))) (fun _ h => by rw [List.take_add_one, hg, show nvs ((heightsZ p.all).take i ++ (some (tallZ (ns.map NodeV.c) ns.length (i : Int))).toList) = nvs ((heightsZ p.all).take i) ++ [.int .i64 ((tallZ (ns.map NodeV.c) ns.length (i : Int) : Nat) : Int)] by simp [nvs]]; exact h.sort (by repeat constructor)) (by show ns.length - (i + 1) < ns.length - i; omega) (by show i + 1 ≤ _; omega)
  have f1 := h1;try simp only [bl] at f1
  refine c_exit (then_x (then_x (blk_eq rfl (tC (sR ?_)))));iterate 2 refine oV ?_
  refine nE ?_;refine ret1 rfl rfl ?_
  have hin : i = ns.length := by omega
  subst hin
  exact fun w' hw' => leafRow (e := 3) (size := 1) (nn := ns.length) (u := uo) (xss := nss (heightsZ p.all)) (by rw [nss_len, hhz, hal]) (nss_one _) (by unfold maxLen; omega) (fun I' hl hs' => hs') w' (by rw [nss_flat]; rw [List.take_of_length_le (by omega)] at hw'; exact hw')
theorem rrLong_any (vi vl vo va : Value) (p : ProgC) (ns : List NodeV) {I : Hp} (hp : ProgV I vi vl vo va p ns) (hlow : LowN p.all) (hn : ns.length ≤ 100000) :
    Fun Tryz.prog 48 [.agg #[vi, vl, vo, va]] I [] (fun v _ _ => v = .bool (longZ p)) := by
  have hsi := hp.si
  have hsl := hp.sl
  have hso := hp.so
  have hsa := hp.sa
  have hli := scs_len p.ins
  have hlo := scs_len p.outs
  have hll : (p.lets.map LetC.cells).length = p.lets.length := List.length_map _
  have hla := nds_len ns
  have hal : p.all.length = ns.length := by rw [← hp.eq, List.length_map]
  have hhz := heightsZ_len p.all
  have hnl := nss_len (heightsZ p.all)
  intro w hw
  refine enter1 _ Tryz.func48 rfl Tryz.ntmps48 rfl ?_ hw;refine sR ?_;refine o_box trivial rfl rfl rfl (fun b1 => ?_);refine oV ?_;refine nU ?_;refine oF 3 Tryz.underlying26 Tryz.sizeOf24 ?_;refine oL Tryz.isAgg24 ?_;refine o_lenSlc trivial rfl Tryz.underlying24 rfl (hsa) ?_;refine oV ?_;refine' o_or trivial trivial rfl rfl rfl rfl rfl rfl rfl rfl (fun hb9 => ?_) ?_;rotate_left
  ·
   have fb9 := hb9
   try simp only [bl] at fb9
   refine gF hb9 0 Tryz.underlying26 Tryz.sizeOf22 ?_;refine gL hb9 Tryz.isAgg22 ?_;refine o_lenSlc (wS rfl rfl hb9) rfl Tryz.underlying22 rfl (hsi) ?_;refine gV hb9 ?_;refine oN ?_;exact joins rfl
  refine' o_or trivial trivial rfl rfl rfl rfl rfl rfl rfl rfl (fun hb15 => ?_) ?_;rotate_left
  ·
   have fb15 := hb15
   try simp only [bl] at fb15
   refine gF hb15 1 Tryz.underlying26 Tryz.sizeOf23 ?_;refine gL hb15 Tryz.isAgg23 ?_;refine o_lenSlc (wS rfl rfl hb15) rfl Tryz.underlying23 rfl (hsl) ?_;refine gV hb15 ?_;refine oN ?_;exact joins rfl
  refine' o_or trivial trivial rfl rfl rfl rfl rfl rfl rfl rfl (fun hb21 => ?_) ?_;rotate_left
  ·
   have fb21 := hb21
   try simp only [bl] at fb21
   refine gF hb21 2 Tryz.underlying26 Tryz.sizeOf22 ?_;refine gL hb21 Tryz.isAgg22 ?_;refine o_lenSlc (wS rfl rfl hb21) rfl Tryz.underlying22 rfl (hso) ?_;refine gV hb21 ?_;refine oN ?_;exact joins rfl
  refine nT ?_;refine cC rfl (fun h1 => ?_) (fun h1 => ?_)
  ·
   have f1 := h1;try simp only [bl] at f1
   refine sR ?_;refine oV ?_;refine nF ?_;refine ret1 rfl rfl ?_;refine leaf0 (congrArg Value.bool ?_)
   unfold longZ
   simp at h1
   simp
   omega
  have f1 := h1;try simp only [bl] at f1
  have hno : ¬ 400 < p.all.length ∧ ¬ 40 < p.ins.length ∧ ¬ 40 < p.lets.length ∧ ¬ 40 < p.outs.length := by
    simp at h1
    omega
  refine kS ?_;refine oA Tryz.isAgg26 Tryz.sizeOf26 ?_;refine oI Tryz.call82 rfl (rrHeights_any vi vl vo va p ns hp hlow hn) ?_;rintro v28 I2 hx2 hs2;refine oV ?_;refine nU ?_;refine oV ?_;refine oN (tC (cB ?_));refine c_loop (ι := Nat) [3] (.cons rfl .nil) (fun x => (heightsZ p.all).length - x) (fun x E0 => (4, .int .i64 (x : Int)) :: E0) (fun x => St w [] I2 [.box b1 (.cells #[vi, vl, vo, va] 26 (0, 0))]) (fun x => x ≤ (heightsZ p.all).length ∧ (heightsZ p.all).any (fun h => decide (60 < h)) = ((heightsZ p.all).drop x).any (fun h => decide (60 < h))) (0) (sC rfl (sC rfl sN)) (fun _ h => h) (⟨Nat.zero_le _, rfl⟩) ?_;rintro i ⟨hi, hF⟩
  try dsimp only
  refine cS (sR ?_);iterate 2 refine oV ?_
  refine o_lenSlc trivial rfl Tryz.underlying52 rfl (hs2) ?_;refine oV ?_;refine nT ?_;refine cC rfl (fun h2 => ?_) (fun h2 => ?_)
  ·
   have f2 := h2;try simp only [bl] at f2
   obtain ⟨k, hk⟩ : ∃ k, (heightsZ p.all)[i]? = some k := ⟨(heightsZ p.all)[i]'(by omega), List.getElem?_eq_getElem (by omega)⟩
   have hst : ((heightsZ p.all).drop i).any (fun h => decide (60 < h)) = (decide (60 < k) || ((heightsZ p.all).drop (i + 1)).any (fun h => decide (60 < h))) := by
     rw [List.drop_eq_getElem_cons (List.getElem?_eq_some_iff.1 hk).1, List.any_cons, (List.getElem?_eq_some_iff.1 hk).2]
   refine cK (tC (cS (cB (sR ?_))));iterate 2 refine oV ?_
   refine o_elem trivial rfl Tryz.underlying52 Tryz.sizeOf3 rfl (hs2) rfl (by omega) ?_;refine o_load1I trivial rfl Tryz.isAgg3 rfl (nss_at hs2 hk) ?_;refine oV ?_;refine nT ?_;refine cC rfl (fun h3 => ?_) (fun h3 => ?_)
   ·
    have f3 := h3;try simp only [bl] at f3
    refine sR ?_;refine oV ?_;refine oN (tC (cT (blk_r (tR (tR (blk_r (tR ?_)))))));refine ret1 rfl rfl ?_;refine leaf hx2 (List.nil_sublist _) (congrArg Value.bool ?_)
    unfold longZ
    rw [hF, hst, decide_eq_true (show 60 < k by omega)]
    simp
   have f3 := h3;try simp only [bl] at f3
   refine cK (blk_n (tC (cR ?_)));refine oV ?_
   first | (refine o_add trivial rfl rfl rfl ?_ ?_; (omega)) | refine oV ?_
   refine oV ?_;refine oN ?_;exact again (i + 1) (sC rfl (sC rfl sN)) (fun _ h => h) (by show (heightsZ p.all).length - (i + 1) < (heightsZ p.all).length - i; omega) ⟨by show i + 1 ≤ _; omega, by rw [hF, hst, decide_eq_false (show ¬ 60 < k by omega)]; rfl⟩
  have f2 := h2;try simp only [bl] at f2
  refine c_exit (then_x (then_x (blk_eq rfl (tC (sR ?_)))));refine oV ?_;refine nE ?_;refine ret1 rfl rfl ?_;refine leaf hx2 (List.nil_sublist _) (congrArg Value.bool ?_)
  rw [List.drop_eq_nil_of_le (by omega)] at hF
  unfold longZ
  rw [hF]
  simp
  omega
end Go.Proofs.YtfcmhcaggdakbaaGreatDoor
namespace Go.Tw
open Go
theorem Few.pow {k : Nat} {q : Rat} (h : Few k q) (m : Nat) : Few (k * m + 1) (q ^ m) := by
  have key : ∀ a : Nat, a < 4294967296 ^ k → a ^ m < 4294967296 ^ (k * m + 1) := fun a ha => by
    have h2 : a ^ m ≤ (4294967296 ^ k) ^ m := Nat.pow_le_pow_left (Nat.le_of_lt ha) m
    rw [← Nat.pow_mul] at h2
    exact Nat.lt_of_le_of_lt h2 (Nat.pow_lt_pow_right (by decide) (Nat.lt_succ_self _))
  exact ⟨by rw [Rat.num_pow, Int.natAbs_pow]; exact key _ h.num, by rw [Rat.den_pow]; exact key _ h.den⟩
theorem RV.at_ {I : Hp} {v : Value} {rs : List RV} (h : Slc I 3 v (rcs rs)) {i : Nat} {r : RV} (hr : rs[i]? = some r) : ∀ k y, ([.bool (decide (r.q.num < 0)), r.vn, r.vd] : List Value)[k]? = some y → I.cell? ⟨slcB v, slcO v + i * 3 + k, none⟩ = some y :=
  h.cells i _ (by unfold rcs; rw [List.getElem?_map, hr]; rfl)
end Go.Tw
namespace Go.Proofs.YtfcmhcaggdakbaaGreatDoor
open Go Go.Tw
theorem rFew_any (vx : Value) (xs : List NV) (k : Int) {I : Hp} (h : PtV I vx xs) : Fun Tryz.prog 40 [vx, .int .i64 k] I [] (fun v _ _ => v = .bool (xs.all fun x => decide ((x.n.length : Int) ≤ k ∧ (x.d.length : Int) ≤ k))) := by
  have hl1 : (xs.map NV.cells).length = xs.length := List.length_map _
  have hs1 := h.s
  have hm1 := hs1.most
  unfold maxLen at hm1
  intro w hw
  refine enter2 _ Tryz.func40 rfl Tryz.ntmps40 rfl ?_ hw;refine sR ?_;refine oV ?_;refine nU ?_;refine oV ?_;refine oN (tC (cB ?_));refine c_loop (ι := Nat) [0, 1] (.cons rfl (.cons rfl .nil)) (fun i => xs.length - i) (fun i E0 => (5, .int .i64 (i : Nat)) :: E0) (fun i => St w [] I []) (fun i => i ≤ xs.length ∧ ((xs.take i).all fun x => decide ((x.n.length : Int) ≤ k ∧ (x.d.length : Int) ≤ k)) = true) (0) (sC rfl (sC rfl (sC rfl sN))) (fun _ h => h) (⟨Nat.zero_le _, rfl⟩) ?_;rintro i ⟨hi, he⟩
  try dsimp only
  refine cS (sR ?_);iterate 2 refine oV ?_
  refine o_lenSlc trivial rfl Tryz.underlying72 rfl (hs1) ?_;refine oV ?_;refine nT ?_;refine cC rfl (fun h1 => ?_) (fun h1 => ?_)
  ·
   have f1 := h1;try simp only [bl] at f1
   have hi1 : i < xs.length := by omega
   obtain ⟨x, hx⟩ : ∃ x, xs[i]? = some x := ⟨xs[i], List.getElem?_eq_getElem hi1⟩
   obtain ⟨hxn, hxd⟩ := h.ok x (List.mem_of_getElem? hx)
   refine cK (tC (cS (cB (sR ?_))));iterate 2 refine oV ?_
   refine o_elem trivial rfl Tryz.underlying72 Tryz.sizeOf35 rfl (hs1) rfl (by omega) ?_;refine oF 1 Tryz.underlying35 Tryz.sizeOf33 ?_;refine o_load1I trivial rfl Tryz.isAgg33 rfl (NV.at_ h hx 1 _ rfl) ?_;refine o_lenW trivial rfl Tryz.underlying33 rfl (hxn) ?_;iterate 2 refine oV ?_
   refine' o_or trivial trivial rfl rfl rfl rfl rfl rfl rfl rfl (fun hb20 => ?_) ?_;rotate_left
   ·
    have fb20 := hb20
    try simp only [bl] at fb20
    iterate 2 refine gV hb20 ?_
    refine o_elem (wS rfl rfl hb20) rfl Tryz.underlying72 Tryz.sizeOf35 rfl (hs1) rfl (by omega) ?_;refine gF hb20 2 Tryz.underlying35 Tryz.sizeOf33 ?_;refine o_load1I (wS rfl rfl hb20) rfl Tryz.isAgg33 rfl (NV.at_ h hx 2 _ rfl) ?_;refine o_lenW (wS rfl rfl hb20) rfl Tryz.underlying33 rfl (hxd) ?_;iterate 2 refine gV hb20 ?_
    refine oN ?_;exact joins rfl
   refine nT ?_;refine cC rfl (fun h2 => ?_) (fun h2 => ?_)
   ·
    have f2 := h2;try simp only [bl] at f2
    refine sR ?_;refine oV ?_;refine oN (tC (cT (blk_r (tR (tR (blk_r (tR ?_)))))));refine ret1 rfl rfl ?_;refine leaf0 (congrArg Value.bool ?_)
    symm
    rw [List.all_eq_false]
    exact ⟨x, List.mem_of_getElem? hx, by simp; omega⟩
   have f2 := h2;try simp only [bl] at f2
   refine cK (blk_n (tC (cR ?_)));refine oV ?_
   first | (refine o_add trivial rfl rfl rfl ?_ ?_; (omega)) | refine oV ?_
   refine oV ?_;refine oN ?_;exact again (i + 1) (sC rfl (sC rfl (sC rfl sN))) (fun _ h => h) (by show xs.length - (i + 1) < xs.length - i; omega) ⟨by show i + 1 ≤ _; omega, by rw [List.take_add_one, hx, List.all_append, he]; simp; omega⟩
  have f1 := h1;try simp only [bl] at f1
  refine c_exit (then_x (then_x (blk_eq rfl (tC (sR ?_)))));refine oV ?_;refine nE ?_;refine ret1 rfl rfl ?_;refine leaf0 (congrArg Value.bool ?_)
  rw [List.take_of_length_le (by omega)] at he
  exact he.symm
theorem rShiftB_any (va : Value) (A : List Nat) (m : Nat) {I : Hp} (ha : Ws I va A) (hs : A.length ≤ 35184372088400) (hm : m ≤ 10000000000000000) (hr : (natW (val A * 2 ^ min m 100000)).length ≤ 35184372088400) : Fun Tryz.prog 202 [va, .int .i64 (m : Int)] I [] (fun v I' _ => Ws I' v (natW (val A * 2 ^ min m 100000))) := by
  have hA := val_lt ha.wds
  intro w hw
  refine enter2 _ Tryz.func202 rfl Tryz.ntmps202 rfl ?_ hw;refine sR ?_;refine oV ?_;refine nS ?_;refine oV ?_;refine oI Tryz.call115 rfl (rTrim_any _ _ ha (by omega)) ?_;rintro u1 I1 hx1 hs1;refine oV ?_;refine nU ?_;refine oV ?_;refine oN (tC (cB ?_));refine c_loop (ι := Nat × Value × Hp) [1] (.cons rfl .nil) (fun x => m - x.1) (fun x E0 => (5, x.2.1) :: (6, .int .i64 (x.1 : Nat)) :: E0) (fun x => St w [] x.2.2 []) (fun x => x.1 ≤ min m 100000 ∧ Ws x.2.2 x.2.1 (natW (val A * 2 ^ x.1)) ∧ Ext w.heap.size I x.2.2) ((0, u1, I1)) (sC rfl (sC rfl (sC rfl sN))) (fun _ h => h) (⟨Nat.zero_le _, by show Ws I1 u1 (natW (val A * 1)); rw [Nat.mul_one]; exact hs1, hx1⟩) ?_;rintro ⟨i, u, I2⟩ ⟨hi, hu, hx2⟩
  try dsimp only
  simp only at hi hu hx2
  refine cS (sR ?_);iterate 3 refine oV ?_
  refine' o_and trivial trivial rfl rfl rfl rfl rfl rfl rfl rfl (fun hb12 => ?_) ?_;rotate_left
  ·
   iterate 2 refine gV hb12 ?_
   refine oN ?_;exact joins rfl
  refine' o_and trivial trivial rfl rfl rfl rfl rfl rfl rfl rfl (fun hb16 => ?_) ?_;rotate_left
  ·
   have fb16 := hb16
   try simp only [bl] at fb16
   refine gV hb16 ?_;refine o_lenW (wS rfl rfl hb16) rfl Tryz.underlying33 rfl (hu) ?_;refine gV hb16 ?_;refine oN ?_;exact joins rfl
  refine nT ?_;refine cC rfl (fun h1 => ?_) (fun h1 => ?_)
  ·
   have f1 := h1;try simp only [bl] at f1
   have hl1 : (natW (val A * 2 ^ i)).length ≤ 35184372088400 := Nat.le_trans (natW_le_len (Nat.mul_le_mul_left _ (Nat.pow_le_pow_right (by decide) hi))) hr
   refine cK (tC (cS (cB (cR ?_))));refine oV ?_;refine oI Tryz.call177 rfl (rOne_any _ _ 2 0 hu (by omega) (by decide) (by decide)) ?_;rintro u3 I3 hx3 hs3;refine oV ?_;refine oN (blk_n (tC (cR ?_)));refine oV ?_
   first | (refine o_add trivial rfl rfl rfl ?_ ?_; (omega)) | refine oV ?_
   refine oV ?_;refine oN ?_
   rw [val_natW, Nat.add_zero, Nat.mul_assoc, ← Nat.pow_succ] at hs3
   exact again (i + 1, u3, I3) (sC rfl (sC rfl (sC rfl sN))) (fun _ h => h) (by show m - (i + 1) < m - i; omega) ⟨by show i + 1 ≤ _; omega, hs3, hx2.trans hx3 (Nat.le_refl _)⟩
  have f1 := h1;try simp only [bl] at f1
  refine c_exit (then_x (then_x (blk_eq rfl (tC (sR ?_)))));iterate 2 refine oV ?_
  refine nE ?_;refine ret1 rfl rfl ?_;refine leaf hx2 (List.nil_sublist _) ?_
  by_cases him : i = min m 100000
  · rw [← him]; exact hu
  · have h0 : val A * 2 ^ i = 0 := natW_len_zero.1 (by omega)
    have hp : 0 < 2 ^ i := Nat.pow_pos (by decide)
    have h1 : val A = 0 := by
      rcases Nat.mul_eq_zero.1 h0 with h | h
      · exact h
      · omega
    rw [h1, Nat.zero_mul] at hu ⊢
    exact hu
theorem rGcdB_any (va vb : Value) (A B : List Nat) {I : Hp} (ha : Ws I va A) (hb : Ws I vb B) (hs : A.length ≤ 35184372088400) (hs2 : B.length ≤ 35184372088400) : Fun Tryz.prog 174 [va, vb] I [] (fun v I' _ => ∃ g, Ws I' v (natW g) ∧ (natW g).length ≤ 35184372088400 ∧ (val B ≠ 0 → 0 < g)) := by
  have hal : (natW (val A)).length ≤ 35184372088400 := Nat.le_trans (natW_len_list ha.wds) hs
  have hbl : (natW (val B)).length ≤ 35184372088400 := Nat.le_trans (natW_len_list hb.wds) hs2
  intro w hw
  refine enter2 _ Tryz.func174 rfl Tryz.ntmps174 rfl ?_ hw;refine sR ?_;refine oV ?_;refine nS ?_;refine oV ?_;refine oI Tryz.call115 rfl (rTrim_any _ _ ha (by omega)) ?_;rintro u1 I1 hx1 hs1;refine oV ?_;refine nS ?_;refine oV ?_;refine oI Tryz.call115 rfl (rTrim_any _ _ (hb.le hx1.le) (by omega)) ?_;rintro u2 I2 hx2 hs2';refine oV ?_;refine nU ?_;refine oV ?_;refine o_lenW trivial rfl Tryz.underlying33 rfl (hs1.le hx2.le) ?_;refine oV ?_;refine nT ?_;refine cC rfl (fun h1 => ?_) (fun h1 => ?_)
  ·
   have f1 := h1;try simp only [bl] at f1
   refine sR ?_;iterate 2 refine oV ?_
   refine nF ?_;refine ret1 rfl rfl ?_
   have h0 : val A = 0 := natW_len_zero.1 (by omega)
   exact leaf (hx1.trans hx2 (Nat.le_refl _)) (List.nil_sublist _) ⟨val B, hs2', hbl, fun h => Nat.pos_of_ne_zero h⟩
  have f1 := h1;try simp only [bl] at f1
  refine cK (tC (cS (sR ?_)));refine oV ?_;refine o_lenW trivial rfl Tryz.underlying33 rfl (hs2') ?_;refine oV ?_;refine nT ?_;refine cC rfl (fun h2 => ?_) (fun h2 => ?_)
  ·
   have f2 := h2;try simp only [bl] at f2
   refine sR ?_;iterate 2 refine oV ?_
   refine nF ?_;refine ret1 rfl rfl ?_
   have h0 : val B = 0 := natW_len_zero.1 (by omega)
   exact leaf (hx1.trans hx2 (Nat.le_refl _)) (List.nil_sublist _) ⟨val A, hs1.le hx2.le, hal, fun h => absurd h0 h⟩
  have f2 := h2;try simp only [bl] at f2
  have hA0 : 0 < val A := Nat.pos_of_ne_zero fun e => f1 (by rw [e, natW_zero]; rfl)
  have hB0 : 0 < val B := Nat.pos_of_ne_zero fun e => f2 (by rw [e, natW_zero]; rfl)
  refine kS ?_;refine oV ?_;refine oI Tryz.call201 rfl (rOdd_any _ _ (hs1.le hx2.le) (by omega) hA0) ?_;rintro _ I3 hx3 ⟨u3, x, n, rfl, hs3, ho3⟩;iterate 5 refine oV ?_
  refine oN (tC (cS ?_))
  have hn := ho3.pow_lt hal
  refine cR ?_;refine oV ?_;refine oI Tryz.call201 rfl (rOdd_any _ _ (hs2'.le hx3.le) (by omega) hB0) ?_;rintro _ I4 hx4 ⟨u4, y, k, rfl, hs4, ho4⟩;iterate 5 refine oV ?_
  refine oN (tC (cS (cB ?_)));refine c_loop (ι := Nat × Nat × Value × Value × Hp) [7, 8] (.cons rfl (.cons rfl .nil)) (fun t => t.1 + t.2.1) (fun t E0 => (5, t.2.2.1) :: (6, t.2.2.2.1) :: E0) (fun t => St w [] t.2.2.2.2 []) (fun t => t.1 % 2 = 1 ∧ t.2.1 % 2 = 1 ∧ Nat.gcd t.1 t.2.1 = Nat.gcd x y ∧ Ws t.2.2.2.2 t.2.2.1 (natW t.1) ∧ Ws t.2.2.2.2 t.2.2.2.1 (natW t.2.1) ∧ (natW t.1).length ≤ 35184372088400 ∧ (natW t.2.1).length ≤ 35184372088400 ∧ Ext w.heap.size I t.2.2.2.2) ((x, y, u3, u4, I4)) (sC rfl (sC rfl (sC rfl (sC rfl sN)))) (fun _ h => h) (⟨ho3.odd, ho4.odd, rfl, hs3.le hx4.le, hs4, Nat.le_trans (natW_le_len ho3.le) hal, Nat.le_trans (natW_le_len ho4.le) hbl, hx1.trans (hx2.trans (hx3.trans hx4 (Nat.le_refl _)) (Nat.le_refl _)) (Nat.le_refl _)⟩) ?_;rintro ⟨a, b, ua, ub, I5⟩ ⟨hao, hbo, hg, hua, hub, hla, hlb, hx5⟩
  try dsimp only
  simp only at hao hbo hg hua hub hla hlb hx5
  refine cS (sR ?_);iterate 2 refine oV ?_
  refine oQ Tryz.call179 rfl (rCmp_any _ _ _ _ hua hub (by omega) (by omega)) ?_;refine oV ?_;refine nT ?_;refine cC rfl (fun h3 => ?_) (fun h3 => ?_)
  ·
   have f3 := h3;try simp only [bl] at f3
   rw [val_natW, val_natW] at f3
   have hab : a ≠ b := fun e => f3 (by rw [e]; exact cmpZ_self _)
   refine cK (tC (cB ?_));refine c_cut (ι := Nat × Nat × Value × Value) [7, 8] (.cons rfl (.cons rfl .nil)) (fun t E0 => (5, t.2.2.1) :: (6, t.2.2.2) :: E0) (fun t => St w [] I5 []) (fun t => t.1 % 2 = 1 ∧ t.2.1 % 2 = 1 ∧ Nat.gcd t.1 t.2.1 = Nat.gcd x y ∧ Ws I5 t.2.2.1 (natW t.1) ∧ Ws I5 t.2.2.2 (natW t.2.1) ∧ (natW t.1).length ≤ 35184372088400 ∧ (natW t.2.1).length ≤ 35184372088400 ∧ t.2.1 < t.1 ∧ t.1 + t.2.1 = a + b) ?_ ?_
   ·
    refine sR ?_;iterate 2 refine oV ?_
    refine oQ Tryz.call179 rfl (rCmp_any _ _ _ _ hua hub (by omega) (by omega)) ?_;refine oV ?_;refine nT ?_;refine cC rfl (fun h4 => ?_) (fun h4 => ?_)
    ·
     have f4 := h4;try simp only [bl] at f4
     rw [val_natW, val_natW] at f4
     have hlt : a < b := by unfold cmpZ at f4; split at f4 <;> (try split at f4) <;> omega
     refine sR ?_;iterate 2 refine oV ?_
     refine nS ?_;iterate 2 refine oV ?_
     refine nR ?_;iterate 2 refine oV ?_
     refine oN ?_
     first | exact meet (b, a, ub, ua) (sC rfl (sC rfl (sC rfl (sC rfl sN)))) (fun _ h => h) ⟨hbo, hao, by rw [Nat.gcd_comm]; exact hg, hub, hua, hlb, hla, hlt, by show b + a = a + b; omega⟩ | exact meet (a, b, ua, ub) (sC rfl (sC rfl (sC rfl (sC rfl sN)))) (fun _ h => h) ⟨hao, hbo, hg, hua, hub, hla, hlb, by show b < a; omega, rfl⟩
    have f4 := h4;try simp only [bl] at f4
    rw [val_natW, val_natW] at f4
    have hlt : ¬ a < b := fun h => by rw [cmpZ_lt (by omega)] at f4; omega
    refine cK ?_
    first | exact meet (b, a, ub, ua) (sC rfl (sC rfl (sC rfl (sC rfl sN)))) (fun _ h => h) ⟨hbo, hao, by rw [Nat.gcd_comm]; exact hg, hub, hua, hlb, hla, hlt, by show b + a = a + b; omega⟩ | exact meet (a, b, ua, ub) (sC rfl (sC rfl (sC rfl (sC rfl sN)))) (fun _ h => h) ⟨hao, hbo, hg, hua, hub, hla, hlb, by show b < a; omega, rfl⟩
   rintro ⟨c, d, uc, ud⟩ ⟨hco, hdo, hg2, huc, hud, hlc, hld, hdc, hsum⟩
   try dsimp only
   refine cS ?_
   simp only at hco hdo hg2 huc hud hlc hld hdc hsum
   refine cR ?_;iterate 2 refine oV ?_
   refine oI Tryz.call180 rfl (rSub_any _ _ _ _ huc hud (by omega) (by omega) (by rw [val_natW, val_natW]; omega)) ?_;rintro _ I6 hx6 ⟨u6, rfl, hs6⟩;iterate 4 refine oV ?_
   refine nT ?_
   rw [val_natW, val_natW] at hs6
   have hl6 : (natW (c - d)).length ≤ 35184372088400 := Nat.le_trans (natW_le_len (Nat.sub_le _ _)) hlc
   refine cR ?_;refine oV ?_;refine oI Tryz.call201 rfl (rOdd_any _ _ hs6 (by omega) (by omega)) ?_;rintro _ I7 hx7 ⟨u7, z, p, rfl, hs7, ho7⟩;iterate 4 refine oV ?_
   refine oN (blk_n ?_);exact again (z, d, u7, ud, I7) (sC rfl (sC rfl (sC rfl (sC rfl sN)))) (fun _ h => h) (by show z + d < a + b; have := ho7.le; omega) ⟨ho7.odd, hdo, by show Nat.gcd z d = _; rw [gcd_less hdo (by omega) ho7.eq]; exact hg2, hs7, hud.le (hx6.le.trans hx7.le), Nat.le_trans (natW_le_len ho7.le) hl6, hld, hx5.trans (hx6.trans hx7 (Nat.le_refl _)) (Nat.le_refl _)⟩
  have f3 := h3;try simp only [bl] at f3
  rw [val_natW, val_natW] at f3
  have hab : a = b := by have := cmpZ_zero f3; omega
  refine c_exit (then_x (then_x (blk_eq rfl (tC (sR ?_)))));iterate 3 refine oV ?_
  refine o_min2 trivial rfl rfl rfl ?_
  rw [show min (n : Int) (k : Int) = ((min n k : Nat) : Int) by omega]
  refine o_callI trivial rfl Tryz.call202 rfl (rShiftB_any _ _ (min n k) hua hla (by omega) (by
  rw [val_natW]
  refine Nat.le_trans (natW_le_len ?_) hal
  have h1 : a ≤ x := by rw [← Nat.gcd_self a, show Nat.gcd a a = Nat.gcd a b by rw [← hab], hg]; exact Nat.gcd_le_left _ ho3.pos
  have h2 : 2 ^ min (min n k) 100000 ≤ 2 ^ n := Nat.pow_le_pow_right (by decide) (by omega)
  rw [ho3.eq, Nat.mul_comm (2 ^ n)]
  exact Nat.mul_le_mul h1 h2)) ?_
  rintro u8 I8 hx8 hs8;refine oV ?_;refine nE ?_;refine ret1 rfl rfl ?_
  rw [val_natW] at hs8
  refine leaf (hx5.trans hx8 (Nat.le_refl _)) (List.nil_sublist _) ⟨_, hs8, ?_, fun _ => Nat.mul_pos (by omega) (Nat.pow_pos (by decide))⟩;refine Nat.le_trans (natW_le_len ?_) hal
  have h1 : a ≤ x := by rw [← Nat.gcd_self a, show Nat.gcd a a = Nat.gcd a b by rw [← hab], hg]; exact Nat.gcd_le_left _ ho3.pos
  have h2 : 2 ^ min (min n k) 100000 ≤ 2 ^ n := Nat.pow_le_pow_right (by decide) (by omega)
  rw [ho3.eq, Nat.mul_comm (2 ^ n)]
  exact Nat.mul_le_mul h1 h2
theorem rLowestB_any (va vb : Value) (A B : List Nat) {I : Hp} (ha : Ws I va A) (hb : Ws I vb B) (hs : A.length ≤ 35184372088400) (hs2 : B.length ≤ 35184372088400) : Fun Tryz.prog 142 [va, vb] I [] (fun v I' _ => ∃ u1 u2 b N D, v = .tuple #[u1, u2, .bool b] ∧ Ws I' u1 N ∧ Ws I' u2 D) := by
  have hbl : (natW (val B)).length ≤ 35184372088400 := Nat.le_trans (natW_len_list hb.wds) hs2
  intro w hw
  refine enter2 _ Tryz.func142 rfl Tryz.ntmps142 rfl ?_ hw;refine sR ?_;iterate 3 refine oV ?_
  refine nS ?_;refine oV ?_;refine oI Tryz.call115 rfl (rTrim_any _ _ hb (by omega)) ?_;rintro u1 I1 hx1 hs1;refine oV ?_;refine nU ?_;refine oV ?_;refine o_lenW trivial rfl Tryz.underlying33 rfl (hs1) ?_;refine oV ?_;refine nT ?_;refine cC rfl (fun h1 => ?_) (fun h1 => ?_)
  ·
   have f1 := h1;try simp only [bl] at f1
   refine sR ?_;iterate 3 refine oV ?_
   refine nF ?_;refine ret3 rfl rfl rfl rfl ?_;exact leaf hx1 (List.nil_sublist _) ⟨.slice none 0 0, .slice none 0 0, false, [], [], rfl, Ws.nil _, Ws.nil _⟩
  have f1 := h1;try simp only [bl] at f1
  have h0 : 0 < val B := Nat.pos_of_ne_zero fun e => f1 (by rw [e, natW_zero]; rfl)
  refine kS ?_;iterate 2 refine oV ?_
  refine oI Tryz.call174 rfl (rGcdB_any _ _ _ _ (ha.le hx1.le) hs1 hs (by omega)) ?_;rintro u2 I2 hx2 ⟨g, hs2', hgl, hg0⟩;refine oV ?_;refine oN (tC (cS ?_))
  have hg : 0 < g := hg0 (by rw [val_natW]; omega)
  refine cR ?_;iterate 2 refine oV ?_
  refine oI Tryz.call148 rfl (rDiv_any _ _ _ _ (ha.le (hx1.le.trans hx2.le)) hs2' (by omega) (by omega) (by rw [val_natW]; exact hg)) ?_;rintro _ I3 hx3 ⟨u3, u4, rfl, hq3, hr3⟩;iterate 7 refine oV ?_
  refine nS ?_;iterate 2 refine oV ?_
  refine oI Tryz.call148 rfl (rDiv_any _ _ _ _ (hs1.le (hx2.le.trans hx3.le)) (hs2'.le hx3.le) (by omega) (by omega) (by rw [val_natW]; exact hg)) ?_;rintro _ I4 hx4 ⟨u5, u6, rfl, hq5, hr5⟩;iterate 5 refine oV ?_
  refine nS ?_;iterate 5 refine oV ?_
  refine nE ?_;refine ret3 rfl rfl rfl rfl ?_;exact leaf (hx1.trans (hx2.trans (hx3.trans hx4 (Nat.le_refl _)) (Nat.le_refl _)) (Nat.le_refl _)) (List.nil_sublist _) ⟨u3, u5, true, _, _, rfl, hq3.le hx4.le, hq5⟩
def RatB (I : Hp) (v : Value) : Prop := ∃ s u1 u2 N D, v = .agg #[.bool s, u1, u2] ∧ Ws I u1 N ∧ Ws I u2 D
theorem rlowB_any (neg : Bool) (va vb : Value) (A B : List Nat) {I : Hp} (ha : Ws I va A) (hb : Ws I vb B) (hs : A.length ≤ 35184372088400) (hs2 : B.length ≤ 35184372088400) : Fun Tryz.prog 106 [.agg #[.bool neg, va], vb] I [] (fun v I' _ => RatB I' v) := by
  intro w hw
  refine enter2 _ Tryz.func106 rfl Tryz.ntmps106 rfl ?_ hw;refine sR ?_;refine o_box trivial rfl rfl rfl (fun b2 => ?_);refine o_alloc trivial rfl Tryz.zeroValue35 rfl (fun b4 => ?_);refine nS ?_;refine oF 1 Tryz.underlying132 Tryz.sizeOf33 ?_;refine oL Tryz.isAgg33 ?_;refine oV ?_;refine oI Tryz.call142 rfl (rLowestB_any _ _ _ _ ha hb hs hs2) ?_;rintro _ I1 hx1 ⟨u1, u2, b, N, D, rfl, hu1, hu2⟩;iterate 7 refine oV ?_
  refine nU ?_;iterate 2 refine oV ?_
  refine' o_or trivial trivial rfl rfl rfl rfl rfl rfl rfl rfl (fun hb18 => ?_) ?_;rotate_left
  ·
   have fb18 := hb18
   try simp only [bl] at fb18
   refine gV hb18 ?_;refine o_lenW (wS rfl rfl hb18) rfl Tryz.underlying33 rfl (hu1) ?_;refine gV hb18 ?_;refine oN ?_;exact joins rfl
  refine nT ?_;refine cC rfl (fun h1 => ?_) (fun h1 => ?_)
  ·
   have f1 := h1;try simp only [bl] at f1
   refine sR ?_;refine oB Tryz.underlying33 Tryz.sizeOf134 Tryz.zeroValue134 fun b23 => ?_;refine l_sealW [1] .here (Wds_cons (by decide) Wds_nil) (by unfold maxLen; simp) (fun I2 hx2 hs2' => ?_);refine o_buildS trivial rfl (bld35) rfl (.cons rfl (by first | exact (Ws.cells1 (by assumption)).1 | exact (Slc.cells1 (by assumption)).1 | rfl) (by rfl) (by repeat constructor) .nil) ?_;refine oS Tryz.sizeOf35 ?_;refine nF ?_;refine retR rfl (.agg Tryz.isAgg35 Tryz.sizeOf35 rfl (by repeat constructor) rfl .nil) ?_;exact leaf (hx1.trans hx2 (Nat.le_refl _)) (List.nil_sublist _) ⟨false, _, _, [], [1], rfl, Ws.nil _, hs2'⟩
  have f1 := h1;try simp only [bl] at f1
  refine kS ?_;refine oF 0 Tryz.underlying132 Tryz.sizeOf4 ?_;refine oL Tryz.isAgg4 ?_;iterate 2 refine oV ?_
  refine o_buildS trivial rfl (bld35) rfl (.cons rfl rfl rfl (by repeat constructor) (.cons rfl (by first | exact (Ws.cells1 (by assumption)).1 | exact (Slc.cells1 (by assumption)).1 | rfl) (by rfl) (by repeat constructor) (.cons rfl (by first | exact (Ws.cells1 (by assumption)).1 | exact (Slc.cells1 (by assumption)).1 | rfl) (by rfl) (by repeat constructor) .nil))) ?_;refine oS Tryz.sizeOf35 ?_;refine nE ?_;refine retR rfl (.agg Tryz.isAgg35 Tryz.sizeOf35 rfl (by repeat constructor) rfl .nil) ?_;exact leaf hx1 (List.nil_sublist _) ⟨neg, u1, u2, N, D, rfl, hu1, hu2⟩
theorem rFixB_any (neg : Bool) (va vb : Value) (A B : List Nat) {I : Hp} (ha : Ws I va A) (hb : Ws I vb B) (hs : A.length ≤ 35184372088400) (hs2 : B.length ≤ 35184372088400) : Fun Tryz.prog 83 [.agg #[.bool neg, va, vb]] I [] (fun v I' _ => RatB I' v) := by
  intro w hw
  refine enter1 _ Tryz.func83 rfl Tryz.ntmps83 rfl ?_ hw;refine sR ?_;refine o_box trivial rfl rfl rfl (fun b1 => ?_);refine o_alloc trivial rfl Tryz.zeroValue35 rfl (fun b2 => ?_);refine nS ?_;refine oF 0 Tryz.underlying35 Tryz.sizeOf4 ?_;refine oL Tryz.isAgg4 ?_;refine oF 1 Tryz.underlying35 Tryz.sizeOf33 ?_;refine oL Tryz.isAgg33 ?_;refine o_buildS trivial rfl (bld132) rfl (.cons rfl rfl rfl (by repeat constructor) (.cons rfl (by first | exact (Ws.cells1 (by assumption)).1 | exact (Slc.cells1 (by assumption)).1 | rfl) (by rfl) (by repeat constructor) .nil)) ?_;refine oF 2 Tryz.underlying35 Tryz.sizeOf33 ?_;refine oL Tryz.isAgg33 ?_;refine oI Tryz.call106 rfl (rlowB_any neg _ _ _ _ ha hb hs hs2) ?_;rintro _ I1 hx1 ⟨s, u1, u2, N, D, rfl, h1, h2⟩;refine oS Tryz.sizeOf35 ?_;refine nE ?_;refine retR rfl (.agg Tryz.isAgg35 Tryz.sizeOf35 rfl (by repeat constructor) rfl .nil) ?_;exact leaf hx1 (List.nil_sublist _) ⟨s, u1, u2, N, D, rfl, h1, h2⟩
theorem rRightB_any (neg : Bool) (va vb : Value) (A B : List Nat) {I : Hp} (ha : Ws I va A) (hb : Ws I vb B) (hs : A.length ≤ 35184372088400) (hs2 : B.length ≤ 35184372088400) : Fun Tryz.prog 77 [.agg #[.bool neg, va, vb]] I [] (fun v _ _ => ∃ b, v = .bool b) := by
  intro w hw
  refine enter1 _ Tryz.func77 rfl Tryz.ntmps77 rfl ?_ hw;refine sR ?_;refine o_box trivial rfl rfl rfl (fun b1 => ?_);refine oV ?_;refine oN (tC (cS ?_));refine h_beginB (m := 5) [.box b1 _] (by repeat constructor) (by kernel_rfl) rfl ?_;refine qT (i := 0) (qB 5 1) (Hp.Le.refl _) rfl rfl (oA Tryz.isAgg35 Tryz.sizeOf35 qF) ?_;refine qT (i := 2) (qB 5 5) (Hp.Le.refl _) rfl rfl (oA Tryz.isAgg35 Tryz.sizeOf35 qF) ?_;refine qO (i := 1) (qB 5 7) rfl ?_;refine oI Tryz.call83 rfl (rFixB_any neg _ _ _ _ ha hb hs hs2) ?_;rintro _ I1 hx1 ⟨s, u1, u2, N, D, rfl, h1, h2⟩;refine qM (hx1.le) ?_;refine qO (i := 3) (qB 5 15) rfl ?_;refine oQ Tryz.call67 rfl (rEqual_any s neg _ _ _ _ N D A B h1 h2 (ha.le hx1.le) (hb.le hx1.le)) ?_;refine qM (hx1.le) ?_;refine qT (i := 4) (qB 5 31) (hx1.le) rfl rfl (oV qF) ?_;refine h_end (by kernel_rfl) ?_;refine tC (cT ?_);refine ret1 rfl rfl ?_;exact leaf hx1 (List.nil_sublist _) ⟨_, rfl⟩
theorem begZ_rng {l : List NodeC} {fr : Int} : ∀ (f : Nat) (i : Int), fr - 1 ≤ begZ l fr f i ∧ begZ l fr f i ≤ max i (fr - 1) := by
  intro f
  induction f with
  | zero => intro i; simp only [begZ]; omega
  | succ f ih =>
    intro i
    unfold begZ
    split
    · omega
    · split
      · omega
      · rename_i n _
        split
        · omega
        · split
          · split
            · omega
            · have := ih n.a; omega
          · split
            · omega
            · split
              · omega
              · have := ih n.a; have := ih n.b; omega
theorem begZ_step {l : List NodeC} {fr i : Int} {f : Nat} {c : NodeC} (hi : ¬ i < fr) (hc : l[i.toNat]? = some c) : begZ l fr (f + 1) i = if c.kind = 0 ∨ c.kind = 1 then i else if c.kind = 6 ∨ c.kind = 7 then (if c.a ≠ i - 1 then fr - 1 else begZ l fr f c.a) else if c.b ≠ i - 1 then fr - 1 else if begZ l fr f c.b < fr ∨ c.a ≠ begZ l fr f c.b - 1 then fr - 1 else begZ l fr f c.a := by
  conv => lhs; unfold begZ
  rw [if_neg hi, hc]
theorem begZ_low {l : List NodeC} {fr i : Int} (f : Nat) (h : i < fr) : begZ l fr f i = fr - 1 := by
  cases f with
  | zero => rfl
  | succ f => unfold begZ; rw [if_pos h]
theorem nd_parts : ∀ (x : Ex) (b : Nat), x.ok → ∀ c ∈ x.nd b, (partsZ c).isSome = true := by
  intro x
  induction x with
  | ref t => intro b h c hc; rw [List.mem_singleton.1 hc, parts_ref h]; rfl
  | num q => intro b h c hc; rw [List.mem_singleton.1 hc, parts_num h]; rfl
  | neg x ih =>
    intro b h c hc
    rcases List.mem_append.1 hc with hc | hc
    · exact ih b h c hc
    · rw [List.mem_singleton.1 hc, parts_neg]; rfl
  | pow x e ih =>
    intro b h c hc
    rcases List.mem_append.1 hc with hc | hc
    · exact ih b h.1 c hc
    · rw [List.mem_singleton.1 hc, parts_pow h.2]; rfl
  | bin k x y ih1 ih2 =>
    intro b h c hc
    obtain ⟨h1, h2, h3, h4⟩ := h
    rcases List.mem_append.1 hc with hc | hc
    · rcases List.mem_append.1 hc with hc | hc
      · exact ih1 b h3 c hc
      · exact ih2 _ h4 c hc
    · rw [List.mem_singleton.1 hc, parts_bin ⟨h1, h2⟩]; rfl
theorem laid_parts : ∀ (l : List (ByteArray × Ex)) (b : Nat), LetsOk l → ∀ c ∈ (laid l b).2, (partsZ c).isSome = true
  | [], _, _, c, hc => by cases hc
  | (s, x) :: l, b, h, c, hc => by
    rcases List.mem_append.1 hc with hc | hc
    · exact nd_parts x b (h _ List.mem_cons_self).2 c hc
    · exact laid_parts l _ (fun a ha => h a (List.mem_cons_of_mem _ ha)) c hc
def bgGo (all : List NodeC) : List LetC → Int → Option Int
  | [], fr => some fr
  | l :: ls, fr => if nameZ l.name = true ∧ fr ≤ l.root ∧ l.root < all.length ∧ begZ all fr all.length l.root = fr then bgGo all ls (l.root + 1) else none
theorem bgGo_ex (all : List NodeC) : ∀ (l : List (ByteArray × Ex)) (b : Nat), LetsOk l → (∀ j c, (laid l b).2[j]? = some c → all[b + j]? = some c) → b + (laid l b).2.length ≤ all.length → bgGo all (laid l b).1 b = some ((b + (laid l b).2.length : Nat) : Int)
  | [], b, _, _, _ => by simp [bgGo, laid]
  | (s, x) :: l, b, h, hat, hle => by
    obtain ⟨h1, h2⟩ := h _ List.mem_cons_self
    have hn := x.n_pos
    have hln : (x.nd b ++ (laid l (b + x.n)).2).length = x.n + (laid l (b + x.n)).2.length := by rw [List.length_append, x.nd_len]
    change b + (x.nd b ++ (laid l (b + x.n)).2).length ≤ _ at hle
    have hA : At all b x := fun j c hj => hat j c (by
      show (x.nd b ++ (laid l (b + x.n)).2)[j]? = some c
      rw [List.getElem?_append_left (List.getElem?_eq_some_iff.1 hj).1]; exact hj)
    have hB := begZ_ex (fr := (b : Int)) (by omega) x b all.length h2 hA (Int.le_refl _) (by omega)
    show bgGo all (⟨s, (b : Int) + x.n - 1⟩ :: (laid l (b + x.n)).1) b = _
    unfold bgGo
    rw [if_pos ⟨h1, by dsimp only; omega, by dsimp only; omega, hB⟩]
    have e : ((b : Int) + x.n - 1 + 1) = ((b + x.n : Nat) : Int) := by omega
    dsimp only
    rw [e, bgGo_ex all l (b + x.n) (fun a ha => h a (List.mem_cons_of_mem _ ha)) (fun j c hj => by
      have := hat (x.n + j) c (by
        show (x.nd b ++ (laid l (b + x.n)).2)[x.n + j]? = some c
        rw [List.getElem?_append_right (by rw [x.nd_len]; omega), x.nd_len, Nat.add_sub_cancel_left]; exact hj)
      rw [Nat.add_assoc]; exact this) (by omega)]
    show some _ = some (((b + (x.nd b ++ (laid l (b + x.n)).2).length : Nat)) : Int)
    rw [hln]
    congr 2
    omega
theorem at_drop {all : List NodeC} {b : Nat} {x : Ex} (h : At all b x) (hb : b + x.n ≤ all.length) : all.drop b = x.nd b ++ all.drop (b + x.n) := by
  apply List.ext_getElem?
  intro j
  by_cases hj : j < x.n
  · rw [List.getElem?_append_left (by rw [x.nd_len]; exact hj), List.getElem?_drop]
    obtain ⟨c, hc⟩ : ∃ c, (x.nd b)[j]? = some c := ⟨_, List.getElem?_eq_getElem (by rw [x.nd_len]; exact hj)⟩
    rw [hc]
    exact h j c hc
  · rw [List.getElem?_append_right (by rw [x.nd_len]; omega), x.nd_len, List.getElem?_drop, List.getElem?_drop]
    congr 1
    omega
theorem bgGo_inv (all : List NodeC) (hok : ∀ c ∈ all, (partsZ c).isSome = true) : ∀ (ls : List LetC) (b : Nat), b ≤ all.length → bgGo all ls b = some (all.length : Int) → ∃ l : List (ByteArray × Ex), LetsOk l ∧ ls = (laid l b).1 ∧ all.drop b = (laid l b).2
  | [], b, hb, h => by
    unfold bgGo at h
    have : b = all.length := by have := Option.some.inj h; omega
    subst this
    exact ⟨[], fun a ha => (by cases ha), rfl, (by rw [List.drop_length]; rfl)⟩
  | l :: ls, b, hb, h => by
    unfold bgGo at h
    split at h
    · rename_i hc
      obtain ⟨c1, c2, c3, c4⟩ := hc
      obtain ⟨b', x, k1, k2, k3, k4⟩ := begZ_inv (fr := (b : Int)) (by omega) hok all.length l.root c3 (by rw [c4]; omega)
      have hbb : b' = b := by omega
      subst hbb
      have hxn := x.n_pos
      have e : l.root + 1 = ((b' + x.n : Nat) : Int) := by omega
      rw [e] at h
      obtain ⟨r, r1, r2, r3⟩ := bgGo_inv all hok ls (b' + x.n) (by omega) h
      refine ⟨(l.name, x) :: r, fun a ha => ?_, ?_, ?_⟩
      · rcases List.mem_cons.1 ha with rfl | ha
        · exact ⟨c1, k2⟩
        · exact r1 a ha
      · show l :: ls = ⟨l.name, (b' : Int) + x.n - 1⟩ :: (laid r (b' + x.n)).1
        rw [← r2]
        obtain ⟨ln, lr⟩ := l
        change (b' : Int) + x.n - 1 = lr at k4
        rw [k4]
      · rw [at_drop k3 (by omega), r3]; rfl
    · cases h
def rightZ (p : ProgC) : Bool := (namesOK p.ins && decide (1 ≤ p.ins.length) && decide (p.ins.length ≤ 40)) && (namesOK p.outs && decide (1 ≤ p.outs.length) && decide (p.outs.length ≤ 40)) && decide (p.lets.length ≤ 40) && decide (p.all.length ≤ 400) && p.all.all (fun c => (partsZ c).isSome) && (bgGo p.all p.lets 0 == some (p.all.length : Int)) && !longZ p
theorem right_shaped {p : ProgC} (h1 : p.all.all (fun c => (partsZ c).isSome) = true) (h2 : bgGo p.all p.lets 0 = some (p.all.length : Int)) : ∃ l, Shaped p l := by
  obtain ⟨l, k1, k2, k3⟩ := bgGo_inv p.all (fun c hc => List.all_eq_true.1 h1 c hc) p.lets 0 (Nat.zero_le _) h2
  exact ⟨l, k2, by rw [List.drop_zero] at k3; exact k3, k1⟩
theorem rightZ_eq (p : ProgC) : rightZ p = (tZ p).isSome := by
  rw [Bool.eq_iff_iff]
  constructor
  · intro h
    unfold rightZ at h
    simp only [Bool.and_eq_true, decide_eq_true_eq, beq_iff_eq] at h
    obtain ⟨⟨⟨⟨⟨⟨⟨⟨a1, a2⟩, a3⟩, ⟨b1, b2⟩, b3⟩, c1⟩, c2⟩, c3⟩, c4⟩, c5⟩ := h
    obtain ⟨l, hl⟩ := right_shaped c3 c4
    rw [long_right hl ⟨namesOK_iff.1 a1, a2⟩ ⟨namesOK_iff.1 b1, b2⟩]
    exact c5
  · intro h
    obtain ⟨l, hr⟩ := tZ_iff.1 h
    have hg := bgGo_ex p.all l 0 hr.ok (fun j c hj => by rw [hr.all, Nat.zero_add]; exact hj) (by rw [Nat.zero_add, ← hr.all]; exact Nat.le_refl _)
    have hlo := long_right hr.toShaped ⟨hr.ins.1, hr.ins.2.1⟩ ⟨hr.outs.1, hr.outs.2.1⟩
    rw [h] at hlo
    have hll : p.lets.length = l.length := by rw [hr.lets, laid_lets]
    unfold rightZ
    rw [← hlo, namesOK_iff.2 hr.ins.1, namesOK_iff.2 hr.outs.1]
    have hp : p.all.all (fun c => (partsZ c).isSome) = true := List.all_eq_true.2 fun c hc => laid_parts l 0 hr.ok c (by rw [← hr.all]; exact hc)
    rw [← hr.lets, ← hr.all] at hg
    have hg' : bgGo p.all p.lets 0 = some (p.all.length : Int) := by rw [show (0 : Int) = ((0 : Nat) : Int) from rfl, hg, Nat.zero_add]
    rw [hp, hg']
    have := hr.ins.2
    have := hr.outs.2
    have := hr.few
    simp
    omega
def fewP (p : ProgC) (most : Int) : Bool := decide ((p.all.length : Int) ≤ most ∧ p.ins.length ≤ 8 ∧ p.lets.length ≤ 8 ∧ p.outs.length ≤ 8) && p.all.all fun c => decide (c.n.length ≤ 6 ∧ c.d.length ≤ 6 ∧ c.name.size ≤ 60)
theorem PtV.lone {I : Hp} {b : Nat} {neg : Bool} {n d : List Nat} {vn vd : Value} {T : TypeId} {fz : Nat × Nat} (hb : I b = some (.cells ([.bool neg, vn, vd] ++ [] : List Value).toArray T fz)) (hn : Ws I vn n) (hd : Ws I vd d) : PtV I (.slice (some ⟨b, 0, none⟩) 1 1) [⟨neg, n, d, vn, vd⟩] :=
  ⟨Slc.of_box (xss := [[.bool neg, vn, vd]]) hb (fun c hc => by rw [List.mem_singleton.1 hc]; rfl) (by unfold maxLen; simp) (Nat.le_refl _), fun x hx => by rw [List.mem_singleton.1 hx]; exact ⟨hn, hd⟩⟩
theorem rrList_any (v : Value) (l : List ByteArray) (m : Int) {I : Hp} (h : Slc I 1 v (scs l)) : Fun Tryz.prog 44 [v, .int .i64 m] I [] (fun r _ _ => r = .bool (namesOK l && decide (m ≤ l.length) && decide (l.length ≤ 40))) := by
  have hl := scs_len l
  have hmx := h.most
  rw [hl] at hmx
  unfold maxLen at hmx
  intro w hw
  refine enter2 _ Tryz.func44 rfl Tryz.ntmps44 rfl ?_ hw;refine sR ?_;refine oV ?_;refine nU ?_;refine oV ?_;refine o_lenSlc trivial rfl Tryz.underlying22 rfl (h) ?_;iterate 2 refine oV ?_
  refine' o_or trivial trivial rfl rfl rfl rfl rfl rfl rfl rfl (fun hb11 => ?_) ?_;rotate_left
  ·
   have fb11 := hb11
   try simp only [bl] at fb11
   refine gV hb11 ?_;refine o_lenSlc (wS rfl rfl hb11) rfl Tryz.underlying22 rfl (h) ?_;refine gV hb11 ?_;refine oN ?_;exact joins rfl
  refine nT ?_;refine cC rfl (fun h1 => ?_) (fun h1 => ?_)
  ·
   have f1 := h1;try simp only [bl] at f1
   refine sR ?_;refine oV ?_;refine nF ?_;refine ret1 rfl rfl ?_;refine leaf0 (congrArg Value.bool ?_)
   simp at h1
   rw [Bool.eq_iff_iff]
   simp
   omega
  have f1 := h1;try simp only [bl] at f1
  have hno : m ≤ l.length ∧ l.length ≤ 40 := by simp at h1; omega
  refine cK (tC (cS (sR ?_)));refine oV ?_;refine oN (tC (cB ?_));refine c_loop (ι := Nat) [0] (.cons rfl .nil) (fun x => l.length - x) (fun x E0 => (5, .int .i64 (x : Int)) :: E0) (fun x => St w [] I []) (fun x => x ≤ l.length ∧ l.all nameZ = (l.drop x).all nameZ) (0) (sC rfl (sC rfl sN)) (fun _ h => h) (⟨Nat.zero_le _, rfl⟩) ?_;rintro i ⟨hi, hF⟩
  try dsimp only
  refine cS (sR ?_);iterate 2 refine oV ?_
  refine o_lenSlc trivial rfl Tryz.underlying22 rfl (h) ?_;refine oV ?_;refine nT ?_;refine cC rfl (fun h2 => ?_) (fun h2 => ?_)
  ·
   have f2 := h2;try simp only [bl] at f2
   obtain ⟨s, hs⟩ : ∃ s, l[i]? = some s := ⟨l[i]'(by omega), List.getElem?_eq_getElem (by omega)⟩
   refine cK (tC (cS (cB (sR ?_))));iterate 2 refine oV ?_
   refine o_elem trivial rfl Tryz.underlying22 Tryz.sizeOf9 rfl (h) rfl (by omega) ?_;refine o_load1I trivial rfl Tryz.isAgg9 rfl (scs_at h hs) ?_;refine oP trivial rfl Tryz.call46 rfl (refName_all _) ?_;refine oV ?_;refine nS ?_;iterate 2 refine oV ?_
   refine nT ?_;refine cC rfl (fun h3 => ?_) (fun h3 => ?_)
   ·
    have f3 := h3;try simp only [bl] at f3
    refine sR ?_;refine oV ?_;refine oN (tC (cT (blk_r (tR (tR (blk_r (tR ?_)))))));refine ret1 rfl rfl ?_;refine leaf0 (congrArg Value.bool ?_)
    unfold namesOK
    rw [hF, all_step hs, show nameZ s = false by simpa using h3]; rfl
   have f3 := h3;try simp only [bl] at f3
   refine cK (blk_n (tC (cR ?_)));refine oV ?_
   first | (refine o_add trivial rfl rfl rfl ?_ ?_; (omega)) | refine oV ?_
   refine oV ?_;refine oN ?_;exact again (i + 1) (sC rfl (sC rfl sN)) (fun _ h => h) (by show l.length - (i + 1) < l.length - i; omega) ⟨by show i + 1 ≤ l.length; omega, by rw [hF, all_step hs, show nameZ s = true by simpa using h3]; rfl⟩
  have f2 := h2;try simp only [bl] at f2
  have hin : i = l.length := by omega
  rw [hin, List.drop_length] at hF
  refine c_exit (then_x (then_x (blk_eq rfl (tC (sR ?_)))));refine oV ?_;refine nE ?_;refine ret1 rfl rfl ?_;refine leaf0 (congrArg Value.bool ?_)
  unfold namesOK
  rw [hF]
  simp
  omega
theorem isSome_if {b : Bool} {k : Nat} : (if b = true then some k else none).isSome = b := by cases b <;> rfl
theorem rRightC_any (neg : Bool) (va vb : Value) (A B : List Nat) {I : Hp} (ha : Ws I va A) (hb : Ws I vb B) (hs : A.length ≤ 35184372088400) (hs2 : B.length ≤ 35184372088400) : Fun Tryz.prog 77 [.agg #[.bool neg, va, vb]] I [] (fun v _ _ => ∃ b, v = .bool b ∧ (A.length ≤ 3000 → B.length ≤ 3000 → b = ratRight neg A B)) := by
  by_cases h : A.length ≤ 3000 ∧ B.length ≤ 3000
  · exact fun_mono (rRight_any neg _ _ _ _ ha hb h.1 h.2) fun v I' B' hv => ⟨_, hv, fun _ _ => rfl⟩
  · exact fun_mono (rRightB_any neg _ _ _ _ ha hb hs hs2) fun v I' B' ⟨b, hv⟩ => ⟨b, hv, fun h1 h2 => absurd ⟨h1, h2⟩ h⟩
theorem rrFieldsG_any (o : NodeV) {I : Hp} (ho : o.ok I) (hf : o.c.few 35184372088400) : Fun Tryz.prog 45 [.agg o.cells.toArray] I [] (fun v _ _ => ∃ b, v = .bool b ∧ (b = true → 0 ≤ o.c.kind ∧ o.c.kind ≤ 7) ∧ (o.c.few 3000 → b = (partsZ o.c).isSome)) := by
  have ha := ho.1
  have hb := ho.2
  have hb1 := ha.cells1
  have hb2 := hb.cells1
  obtain ⟨⟨kind, a, b, e, name, neg, n, d⟩, vn, vd⟩ := o
  change Ws I vn n at ha
  change Ws I vd d at hb
  have hq := rEqual_any neg false vn vd (.slice none 0 0) (.slice none 0 0) n d [] [] ha hb (Ws.nil I) (Ws.nil I)
  have hz : (decide (neg = false) && decide (n = []) && decide (d = [])) = emptyZ neg n d := by
    unfold emptyZ
    cases neg <;> cases n <;> cases d <;> simp
  rw [hz] at hq
  have hsa := decS_size (val n)
  have hsb := decS_size (val d)
  unfold NodeV.cells
  intro w hw
  refine enter1 _ Tryz.func45 rfl Tryz.ntmps45 rfl ?_ hw;refine sR ?_;refine o_box trivial rfl rfl rfl (fun b1 => ?_);refine oV ?_;refine nS ?_;refine oF 5 Tryz.underlying37 Tryz.sizeOf35 ?_;refine oA Tryz.isAgg35 Tryz.sizeOf35 ?_;refine o_buildS trivial rfl (bld35) rfl .nil ?_;refine oQ Tryz.call67 rfl hq ?_;refine oV ?_;refine oN (tC (cS (cB (sR ?_))));refine oF 0 Tryz.underlying37 Tryz.sizeOf3 ?_;refine oL Tryz.isAgg3 ?_;iterate 2 refine oV ?_
  refine nT ?_;refine cC rfl (fun h1 => ?_) (fun h1 => ?_)
  ·
   have f1 := h1;try simp only [bl] at f1
   refine sR ?_;refine oF 4 Tryz.underlying37 Tryz.sizeOf9 ?_;refine oL Tryz.isAgg9 ?_;refine oP trivial rfl Tryz.call46 rfl (refName_all _) ?_;refine oV ?_;refine nS ?_;refine oV ?_;refine' o_and trivial trivial rfl rfl rfl rfl rfl rfl rfl rfl (fun hb18 => ?_) ?_;rotate_left
   ·
    refine gV hb18 ?_;refine oN ?_;exact joins rfl
   refine' o_and trivial trivial rfl rfl rfl rfl rfl rfl rfl rfl (fun hb21 => ?_) ?_;rotate_left
   ·
    have fb21 := hb21
    try simp only [bl] at fb21
    refine gF hb21 1 Tryz.underlying37 Tryz.sizeOf3 ?_;refine gL hb21 Tryz.isAgg3 ?_;refine gV hb21 ?_;refine oN ?_;exact joins rfl
   refine' o_and trivial trivial rfl rfl rfl rfl rfl rfl rfl rfl (fun hb26 => ?_) ?_;rotate_left
   ·
    have fb26 := hb26
    try simp only [bl] at fb26
    refine gF hb26 2 Tryz.underlying37 Tryz.sizeOf3 ?_;refine gL hb26 Tryz.isAgg3 ?_;refine gV hb26 ?_;refine oN ?_;exact joins rfl
   refine' o_and trivial trivial rfl rfl rfl rfl rfl rfl rfl rfl (fun hb31 => ?_) ?_;rotate_left
   ·
    have fb31 := hb31
    try simp only [bl] at fb31
    refine gF hb31 3 Tryz.underlying37 Tryz.sizeOf3 ?_;refine gL hb31 Tryz.isAgg3 ?_;refine gV hb31 ?_;refine oN ?_;exact joins rfl
   refine oV ?_;refine oN (tC (cT (blk_r (tR ?_))));refine ret1 rfl rfl ?_;refine leaf0 ⟨_, rfl, fun _ => (show 0 ≤ kind ∧ kind ≤ 7 by omega), fun _ => ?_⟩; rw [parts_k0 (show kind = 0 by omega), isSome_if]; done
  have f1 := h1;try simp only [bl] at f1
  refine sR ?_;refine oF 0 Tryz.underlying37 Tryz.sizeOf3 ?_;refine oL Tryz.isAgg3 ?_;iterate 2 refine oV ?_
  refine nT ?_;refine cC rfl (fun h2 => ?_) (fun h2 => ?_)
  ·
   have f2 := h2;try simp only [bl] at f2
   refine sR ?_;refine oF 5 Tryz.underlying37 Tryz.sizeOf35 ?_;refine oA Tryz.isAgg35 Tryz.sizeOf35 ?_;refine o_call0 trivial rfl Tryz.call77 rfl (rRightC_any neg _ _ _ _ ha hb hf.1 hf.2) ?_;rintro _ ⟨rb, rfl, hrb⟩;refine oV ?_;refine nU ?_;iterate 2 refine oV ?_
   refine' o_or trivial trivial rfl rfl rfl rfl rfl rfl rfl rfl (fun hb45 => ?_) ?_;rotate_left
   ·
    have fb45 := hb45
    try simp only [bl] at fb45
    refine gF hb45 5 Tryz.underlying37 Tryz.sizeOf35 ?_;refine gF hb45 0 Tryz.underlying35 Tryz.sizeOf4 ?_;refine gL hb45 Tryz.isAgg4 ?_;refine oN ?_;exact joins rfl
   refine' o_or trivial trivial rfl rfl rfl rfl rfl rfl rfl rfl (fun hb50 => ?_) ?_;rotate_left
   ·
    have fb50 := hb50
    try simp only [bl] at fb50
    refine gF hb50 4 Tryz.underlying37 Tryz.sizeOf9 ?_;refine gL hb50 Tryz.isAgg9 ?_;refine gV hb50 ?_;refine oN ?_;exact joins rfl
   refine' o_or trivial trivial rfl rfl rfl rfl rfl rfl rfl rfl (fun hb55 => ?_) ?_;rotate_left
   ·
    have fb55 := hb55
    try simp only [bl] at fb55
    refine gF hb55 1 Tryz.underlying37 Tryz.sizeOf3 ?_;refine gL hb55 Tryz.isAgg3 ?_;refine gV hb55 ?_;refine oN ?_;exact joins rfl
   refine' o_or trivial trivial rfl rfl rfl rfl rfl rfl rfl rfl (fun hb60 => ?_) ?_;rotate_left
   ·
    have fb60 := hb60
    try simp only [bl] at fb60
    refine gF hb60 2 Tryz.underlying37 Tryz.sizeOf3 ?_;refine gL hb60 Tryz.isAgg3 ?_;refine gV hb60 ?_;refine oN ?_;exact joins rfl
   refine' o_or trivial trivial rfl rfl rfl rfl rfl rfl rfl rfl (fun hb65 => ?_) ?_;rotate_left
   ·
    have fb65 := hb65
    try simp only [bl] at fb65
    refine gF hb65 3 Tryz.underlying37 Tryz.sizeOf3 ?_;refine gL hb65 Tryz.isAgg3 ?_;refine gV hb65 ?_;refine oN ?_;exact joins rfl
   refine nT ?_;refine cC rfl (fun h3 => ?_) (fun h3 => ?_)
   ·
    have f3 := h3;try simp only [bl] at f3
    refine sR ?_;refine oV ?_;refine oN (tC (cT (tR (blk_r (tR ?_)))));refine ret1 rfl rfl ?_;refine leaf0 ⟨_, rfl, fun _ => (show 0 ≤ kind ∧ kind ≤ 7 by omega), fun hw => ?_⟩
    obtain rfl := hrb hw.1 hw.2
    rw [parts_k1 (show kind = 1 by omega), isSome_if, ← nil_beq]; unfold constOK; dsimp only; symm; rw [Bool.eq_false_iff]; intro hh; simp only [Bool.and_eq_true, decide_eq_true_eq, beq_iff_eq, Bool.not_eq_true'] at hh; obtain ⟨⟨⟨⟨g1, ⟨⟨g2, g3⟩, g4⟩, g5⟩, g6⟩, g7⟩, g8⟩ := hh; rcases f3 with ((((f3 | f3) | f3) | f3) | f3) | f3 <;> simp_all <;> done
   have f3 := h3;try simp only [bl] at f3
   refine kS ?_;refine oF 5 Tryz.underlying37 Tryz.sizeOf35 ?_;refine oF 1 Tryz.underlying35 Tryz.sizeOf33 ?_;refine oL Tryz.isAgg33 ?_;refine oQ Tryz.call78 rfl (rPrint_any _ _ ha hf.1) ?_;refine o_lenS trivial rfl Tryz.underlying9 rfl ?_;refine oV ?_;refine' o_and trivial trivial rfl rfl rfl rfl rfl rfl rfl rfl (fun hb76 => ?_) ?_;rotate_left
   ·
    have fb76 := hb76
    try simp only [bl] at fb76
    refine gF hb76 5 Tryz.underlying37 Tryz.sizeOf35 ?_;refine gF hb76 2 Tryz.underlying35 Tryz.sizeOf33 ?_;refine gL hb76 Tryz.isAgg33 ?_;refine o_callQ (wS rfl rfl hb76) rfl Tryz.call78 rfl (rPrint_any _ _ hb hf.2) ?_;refine o_lenS (wS rfl rfl hb76) rfl Tryz.underlying9 rfl ?_;refine gV hb76 ?_;refine oN ?_;exact joins rfl
   refine oV ?_;refine oN (tC (cT (blk_r (tR ?_))));refine ret1 rfl rfl ?_;refine leaf0 ⟨_, rfl, fun _ => (show 0 ≤ kind ∧ kind ≤ 7 by omega), fun hw => ?_⟩
   obtain rfl := hrb hw.1 hw.2
   have hda := digs_words ha.wds hw.1
   have hdb := digs_words hb.wds hw.2
   rw [parts_k1 (show kind = 1 by omega), isSome_if, ← nil_beq]; unfold constOK; dsimp only; obtain ⟨⟨⟨⟨⟨g1, g2⟩, g3⟩, g4⟩, g5⟩, g6⟩ := f3; rw [g1, g2, g3, g4, g5, g6, hsa, hsb, Bool.eq_iff_iff]; simp; omega
  have f2 := h2;try simp only [bl] at f2
  refine sR ?_;refine oF 0 Tryz.underlying37 Tryz.sizeOf3 ?_;refine oL Tryz.isAgg3 ?_;refine oV ?_;refine' o_and trivial trivial rfl rfl rfl rfl rfl rfl rfl rfl (fun hb88 => ?_) ?_;rotate_left
  ·
   have fb88 := hb88
   try simp only [bl] at fb88
   refine gF hb88 0 Tryz.underlying37 Tryz.sizeOf3 ?_;refine gL hb88 Tryz.isAgg3 ?_;refine gV hb88 ?_;refine oN ?_;exact joins rfl
  refine oV ?_;refine nT ?_;refine cC rfl (fun h4 => ?_) (fun h4 => ?_)
  ·
   have f4 := h4;try simp only [bl] at f4
   refine sR ?_;refine oF 4 Tryz.underlying37 Tryz.sizeOf9 ?_;refine oL Tryz.isAgg9 ?_;refine oV ?_;refine' o_and trivial trivial rfl rfl rfl rfl rfl rfl rfl rfl (fun hb96 => ?_) ?_;rotate_left
   ·
    refine gV hb96 ?_;refine oN ?_;exact joins rfl
   refine' o_and trivial trivial rfl rfl rfl rfl rfl rfl rfl rfl (fun hb99 => ?_) ?_;rotate_left
   ·
    have fb99 := hb99
    try simp only [bl] at fb99
    refine gF hb99 3 Tryz.underlying37 Tryz.sizeOf3 ?_;refine gL hb99 Tryz.isAgg3 ?_;refine gV hb99 ?_;refine oN ?_;exact joins rfl
   refine oV ?_;refine oN (tC (cT (blk_r (tR ?_))));refine ret1 rfl rfl ?_;refine leaf0 ⟨_, rfl, fun _ => (show 0 ≤ kind ∧ kind ≤ 7 by omega), fun _ => ?_⟩; rw [parts_k2 (show 2 ≤ kind ∧ kind ≤ 5 by omega), isSome_if, nil_beq]; done
  have f4 := h4;try simp only [bl] at f4
  refine sR ?_;refine oF 0 Tryz.underlying37 Tryz.sizeOf3 ?_;refine oL Tryz.isAgg3 ?_;iterate 2 refine oV ?_
  refine nT ?_;refine cC rfl (fun h5 => ?_) (fun h5 => ?_)
  ·
   have f5 := h5;try simp only [bl] at f5
   refine sR ?_;refine oF 4 Tryz.underlying37 Tryz.sizeOf9 ?_;refine oL Tryz.isAgg9 ?_;refine oV ?_;refine' o_and trivial trivial rfl rfl rfl rfl rfl rfl rfl rfl (fun hb111 => ?_) ?_;rotate_left
   ·
    refine gV hb111 ?_;refine oN ?_;exact joins rfl
   refine' o_and trivial trivial rfl rfl rfl rfl rfl rfl rfl rfl (fun hb114 => ?_) ?_;rotate_left
   ·
    have fb114 := hb114
    try simp only [bl] at fb114
    refine gF hb114 2 Tryz.underlying37 Tryz.sizeOf3 ?_;refine gL hb114 Tryz.isAgg3 ?_;refine gV hb114 ?_;refine oN ?_;exact joins rfl
   refine' o_and trivial trivial rfl rfl rfl rfl rfl rfl rfl rfl (fun hb119 => ?_) ?_;rotate_left
   ·
    have fb119 := hb119
    try simp only [bl] at fb119
    refine gF hb119 3 Tryz.underlying37 Tryz.sizeOf3 ?_;refine gL hb119 Tryz.isAgg3 ?_;refine gV hb119 ?_;refine oN ?_;exact joins rfl
   refine oV ?_;refine oN (tC (cT (blk_r (tR ?_))));refine ret1 rfl rfl ?_;refine leaf0 ⟨_, rfl, fun _ => (show 0 ≤ kind ∧ kind ≤ 7 by omega), fun _ => ?_⟩; rw [parts_k6 (show kind = 6 by omega), isSome_if, nil_beq]; done
  have f5 := h5;try simp only [bl] at f5
  refine sR ?_;refine oF 0 Tryz.underlying37 Tryz.sizeOf3 ?_;refine oL Tryz.isAgg3 ?_;iterate 2 refine oV ?_
  refine nT ?_;refine cC rfl (fun h6 => ?_) (fun h6 => ?_)
  ·
   have f6 := h6;try simp only [bl] at f6
   refine sR ?_;refine oF 4 Tryz.underlying37 Tryz.sizeOf9 ?_;refine oL Tryz.isAgg9 ?_;refine oV ?_;refine' o_and trivial trivial rfl rfl rfl rfl rfl rfl rfl rfl (fun hb131 => ?_) ?_;rotate_left
   ·
    refine gV hb131 ?_;refine oN ?_;exact joins rfl
   refine' o_and trivial trivial rfl rfl rfl rfl rfl rfl rfl rfl (fun hb134 => ?_) ?_;rotate_left
   ·
    have fb134 := hb134
    try simp only [bl] at fb134
    refine gF hb134 2 Tryz.underlying37 Tryz.sizeOf3 ?_;refine gL hb134 Tryz.isAgg3 ?_;refine gV hb134 ?_;refine oN ?_;exact joins rfl
   refine' o_and trivial trivial rfl rfl rfl rfl rfl rfl rfl rfl (fun hb139 => ?_) ?_;rotate_left
   ·
    have fb139 := hb139
    try simp only [bl] at fb139
    refine gF hb139 3 Tryz.underlying37 Tryz.sizeOf3 ?_;refine gL hb139 Tryz.isAgg3 ?_;refine gV hb139 ?_;refine oN ?_;exact joins rfl
   refine' o_and trivial trivial rfl rfl rfl rfl rfl rfl rfl rfl (fun hb144 => ?_) ?_;rotate_left
   ·
    have fb144 := hb144
    try simp only [bl] at fb144
    refine gF hb144 3 Tryz.underlying37 Tryz.sizeOf3 ?_;refine gL hb144 Tryz.isAgg3 ?_;refine gV hb144 ?_;refine oN ?_;exact joins rfl
   refine oV ?_;refine oN (tC (cT (blk_r (tR ?_))));refine ret1 rfl rfl ?_;refine leaf0 ⟨_, rfl, fun _ => (show 0 ≤ kind ∧ kind ≤ 7 by omega), fun _ => ?_⟩; rw [parts_k7 (show kind = 7 by omega), isSome_if, nil_beq]; done
  have f6 := h6;try simp only [bl] at f6
  refine cK (blk_n (tC (sR ?_)));refine oV ?_;refine nE ?_;refine ret1 rfl rfl ?_;refine leaf0 ⟨_, rfl, fun h => (by cases h), fun _ => ?_⟩; rw [parts_kn (show kind < 0 ∨ 7 < kind by omega)]; rfl
theorem rrBegin_any (va : Value) (ns : List NodeV) (fr : Int) {I : Hp} (hsa : Slc I 8 va (nds ns)) (hok : ∀ o ∈ ns, o.ok I) (hkn : ∀ c ∈ ns.map NodeV.c, 0 ≤ c.kind ∧ c.kind ≤ 7) (hfr : 0 ≤ fr ∧ fr ≤ 1000000) (hn : ns.length ≤ 100000) : ∀ (f : Nat) (i : Int), i < ns.length → i < fr + f → -1 ≤ i → Fun Tryz.prog 47 [va, .int .i64 fr, .int .i64 i] I [] (fun v _ _ => v = .int .i64 (begZ (ns.map NodeV.c) fr f i)) := by
  intro f
  have hln := nds_len ns
  induction f with
  | zero =>
    intro i hi hf h1
    have hz := begZ_low (l := ns.map NodeV.c) 0 (show i < fr by omega)
    intro w hw
    refine enter3 _ Tryz.func47 rfl Tryz.ntmps47 rfl ?_ hw;refine sR ?_;refine oV ?_;refine nU ?_;iterate 3 refine oV ?_
    refine nT ?_;refine cC rfl (fun h1 => ?_) (fun h1 => ?_)
    ·
     have f1 := h1;try simp only [bl] at f1
     refine sR ?_;refine oV ?_
     first | (refine o_sub trivial rfl rfl rfl ?_ ?_; (omega)) | refine oV ?_
     refine oV ?_;refine nF ?_;refine ret1 rfl rfl ?_;refine leaf0 (congrArg (Value.int .i64) hz.symm)
    have f1 := h1;try simp only [bl] at f1
    exfalso; omega
  | succ f ih =>
    intro i hi hf h1
    by_cases hlow : i < fr
    · have hz := begZ_low (l := ns.map NodeV.c) (f + 1) hlow
      intro w hw
      refine enter3 _ Tryz.func47 rfl Tryz.ntmps47 rfl ?_ hw;refine sR ?_;refine oV ?_;refine nU ?_;iterate 3 refine oV ?_
      refine nT ?_;refine cC rfl (fun h1 => ?_) (fun h1 => ?_)
      ·
       have f1 := h1;try simp only [bl] at f1
       refine sR ?_;refine oV ?_
       first | (refine o_sub trivial rfl rfl rfl ?_ ?_; (omega)) | refine oV ?_
       refine oV ?_;refine nF ?_;refine ret1 rfl rfl ?_;refine leaf0 (congrArg (Value.int .i64) hz.symm)
      have f1 := h1;try simp only [bl] at f1
      exfalso; omega
    · obtain ⟨k, rfl⟩ : ∃ k : Nat, i = k := ⟨i.toNat, by omega⟩
      obtain ⟨o, ho⟩ : ∃ o, ns[k]? = some o := ⟨ns[k]'(by omega), List.getElem?_eq_getElem (by omega)⟩
      have hoc : (ns.map NodeV.c)[((k : Nat) : Int).toNat]? = some o.c := by rw [Int.toNat_natCast, List.getElem?_map, ho]; rfl
      have hom := List.mem_of_getElem? ho
      have hw1 : Ws I o.vn o.c.n := (hok o hom).1
      have hw2 : Ws I o.vd o.c.d := (hok o hom).2
      have hz := begZ_step (f := f) hlow hoc
      have ra := begZ_rng (l := ns.map NodeV.c) (fr := fr) f o.c.a
      have rb := begZ_rng (l := ns.map NodeV.c) (fr := fr) f o.c.b
      have hkd : 0 ≤ o.c.kind ∧ o.c.kind ≤ 7 := hkn o.c (List.mem_map_of_mem hom)
      intro w hw
      refine enter3 _ Tryz.func47 rfl Tryz.ntmps47 rfl ?_ hw;refine sR ?_;refine oV ?_;refine nU ?_;iterate 3 refine oV ?_
      refine nT ?_;refine cC rfl (fun h1 => ?_) (fun h1 => ?_)
      ·
       have f1 := h1;try simp only [bl] at f1
       exfalso; omega
      have f1 := h1;try simp only [bl] at f1
      refine kS ?_;iterate 2 refine oV ?_
      refine o_elem trivial rfl Tryz.underlying24 Tryz.sizeOf37 rfl (hsa) rfl (by omega) ?_;refine o_loadAI trivial rfl Tryz.isAgg37 Tryz.sizeOf37 rfl rfl (nds_at hsa ho) ?_;refine o_alloc trivial rfl Tryz.zeroValue37 rfl (fun b7 => ?_);refine oS Tryz.sizeOf37 ?_;refine oN (tC (cS (cB (sR ?_))));refine oF 0 Tryz.underlying37 Tryz.sizeOf3 ?_;refine oL Tryz.isAgg3 ?_;refine oV ?_;refine' o_or trivial trivial rfl rfl rfl rfl rfl rfl rfl rfl (fun hb22 => ?_) ?_;rotate_left
      ·
       have fb22 := hb22
       try simp only [bl] at fb22
       refine gF hb22 0 Tryz.underlying37 Tryz.sizeOf3 ?_;refine gL hb22 Tryz.isAgg3 ?_;refine gV hb22 ?_;refine oN ?_;exact joins rfl
      refine oV ?_;refine nT ?_;refine cC rfl (fun h2 => ?_) (fun h2 => ?_)
      ·
       have f2 := h2;try simp only [bl] at f2
       refine sR ?_;iterate 2 refine oV ?_
       refine oN (tC (cT (blk_r (tR ?_))));refine ret1 rfl rfl ?_;refine leaf0 (congrArg (Value.int .i64) ?_); rw [hz, if_pos (by omega)]
      have f2 := h2;try simp only [bl] at f2
      refine sR ?_;refine oF 0 Tryz.underlying37 Tryz.sizeOf3 ?_;refine oL Tryz.isAgg3 ?_;refine oV ?_;refine' o_or trivial trivial rfl rfl rfl rfl rfl rfl rfl rfl (fun hb32 => ?_) ?_;rotate_left
      ·
       have fb32 := hb32
       try simp only [bl] at fb32
       refine gF hb32 0 Tryz.underlying37 Tryz.sizeOf3 ?_;refine gL hb32 Tryz.isAgg3 ?_;refine gV hb32 ?_;refine oN ?_;exact joins rfl
      refine oV ?_;refine nT ?_;refine cC rfl (fun h3 => ?_) (fun h3 => ?_)
      ·
       have f3 := h3;try simp only [bl] at f3
       refine cS (sR ?_);refine oF 1 Tryz.underlying37 Tryz.sizeOf3 ?_;refine oL Tryz.isAgg3 ?_;refine oV ?_
       first | (refine o_sub trivial rfl rfl rfl ?_ ?_; (omega)) | refine oV ?_
       refine oV ?_;refine nT ?_;refine cC rfl (fun h4 => ?_) (fun h4 => ?_)
       ·
        have f4 := h4;try simp only [bl] at f4
        refine sR ?_;refine oV ?_
        first | (refine o_sub trivial rfl rfl rfl ?_ ?_; (omega)) | refine oV ?_
        refine oV ?_;refine oN (tC (cT (tR (blk_r (tR ?_)))));refine ret1 rfl rfl ?_;refine leaf0 (congrArg (Value.int .i64) ?_); rw [hz, if_neg (by omega), if_pos (by omega), if_pos (by omega)]
       have f4 := h4;try simp only [bl] at f4
       refine kS ?_;iterate 2 refine oV ?_
       refine oF 1 Tryz.underlying37 Tryz.sizeOf3 ?_;refine oL Tryz.isAgg3 ?_;refine oQ Tryz.call47 rfl (ih o.c.a (by omega) (by omega) (by omega)) ?_;refine oV ?_;refine oN (tC (cT (blk_r (tR ?_))));refine ret1 rfl rfl ?_;refine leaf0 (congrArg (Value.int .i64) ?_); rw [hz, if_neg (by omega), if_pos (by omega), if_neg (by omega)]
      have f3 := h3;try simp only [bl] at f3
      refine cK (blk_n (tC (cS (sR ?_))));refine oF 2 Tryz.underlying37 Tryz.sizeOf3 ?_;refine oL Tryz.isAgg3 ?_;refine oV ?_
      first | (refine o_sub trivial rfl rfl rfl ?_ ?_; (omega)) | refine oV ?_
      refine oV ?_;refine nT ?_;refine cC rfl (fun h5 => ?_) (fun h5 => ?_)
      ·
       have f5 := h5;try simp only [bl] at f5
       refine sR ?_;refine oV ?_
       first | (refine o_sub trivial rfl rfl rfl ?_ ?_; (omega)) | refine oV ?_
       refine oV ?_;refine nF ?_;refine ret1 rfl rfl ?_;refine leaf0 (congrArg (Value.int .i64) ?_); rw [hz, if_neg (by omega), if_neg (by omega), if_pos (by omega)]
      have f5 := h5;try simp only [bl] at f5
      refine kS ?_;iterate 2 refine oV ?_
      refine oF 2 Tryz.underlying37 Tryz.sizeOf3 ?_;refine oL Tryz.isAgg3 ?_;refine oQ Tryz.call47 rfl (ih o.c.b (by omega) (by omega) (by omega)) ?_;refine oV ?_;refine nU ?_;iterate 3 refine oV ?_
      refine' o_or trivial trivial rfl rfl rfl rfl rfl rfl rfl rfl (fun hb64 => ?_) ?_;rotate_left
      ·
       have fb64 := hb64
       try simp only [bl] at fb64
       refine gF hb64 1 Tryz.underlying37 Tryz.sizeOf3 ?_;refine gL hb64 Tryz.isAgg3 ?_;refine gV hb64 ?_
       first | (refine o_sub (wS rfl rfl hb64) rfl rfl rfl ?_ ?_; (omega)) | refine gV hb64 ?_
       refine gV hb64 ?_;refine oN ?_;exact joins rfl
      refine nT ?_;refine cC rfl (fun h6 => ?_) (fun h6 => ?_)
      ·
       have f6 := h6;try simp only [bl] at f6
       refine sR ?_;refine oV ?_
       first | (refine o_sub trivial rfl rfl rfl ?_ ?_; (omega)) | refine oV ?_
       refine oV ?_;refine nF ?_;refine ret1 rfl rfl ?_;refine leaf0 (congrArg (Value.int .i64) ?_); rw [hz, if_neg (by omega), if_neg (by omega), if_neg (by omega), if_pos (by omega)]
      have f6 := h6;try simp only [bl] at f6
      refine kS ?_;iterate 2 refine oV ?_
      refine oF 1 Tryz.underlying37 Tryz.sizeOf3 ?_;refine oL Tryz.isAgg3 ?_;refine oQ Tryz.call47 rfl (ih o.c.a (by omega) (by omega) (by omega)) ?_;refine oV ?_;refine nE ?_;refine ret1 rfl rfl ?_;refine leaf0 (congrArg (Value.int .i64) ?_); rw [hz, if_neg (by omega), if_neg (by omega), if_neg (by omega), if_neg (by omega)]
theorem rText_any (n : Int) {I : Hp} (hn : n ≤ 1000000) : Fun Tryz.prog 51 [.int .i64 n] I [] (fun v _ _ => v = .string (decS n.toNat)) := by
  intro w hw
  refine enter1 _ Tryz.func51 rfl Tryz.ntmps51 rfl ?_ hw;refine sR ?_;refine oV ?_;refine nU ?_;iterate 2 refine oV ?_
  refine nT ?_;refine cC rfl (fun h1 => ?_) (fun h1 => ?_)
  ·
   have f1 := h1;try simp only [bl] at f1
   refine sR ?_;refine oV ?_;refine nF ?_;refine ret1 rfl rfl ?_;refine leaf0 (congrArg Value.string ?_); rw [show n.toNat = 0 by omega, decS_nil]
  have f1 := h1;try simp only [bl] at f1
  obtain ⟨k, rfl⟩ : ∃ k : Nat, n = k := ⟨n.toNat, by omega⟩
  refine kS ?_;refine oV ?_;refine o_convIn trivial rfl Tryz.underlying3 Tryz.underlying136 rfl (by rw [IntWalk.u64_in _ (by omega)]) ?_;refine oI Tryz.call86 rfl (rOf_any k (by omega)) ?_;rintro _ I1 hx1 hs1;refine oQ Tryz.call78 rfl (rPrint_any _ _ hs1 (natW_len_of (k := 1) (by rw [Nat.pow_one]; omega) (by decide))) ?_;refine oV ?_;refine nE ?_;refine ret1 rfl rfl ?_;refine leaf hx1 (List.nil_sublist _) (congrArg Value.string ?_); rw [val_natW, Int.toNat_natCast]
theorem rPrint7_any (va : Value) (A : List Nat) {I : Hp} (ha : Ws I va A) (hs : A.length ≤ 100000) : Fun Tryz.prog 84 [.agg #[.bool false, va]] I [] (fun v _ _ => v = .string (decS (val A))) := by
  have hfix := rFix7_any false va A ha hs
  rw [show (if false = true then -(val A : Int) else (val A : Int)) = (val A : Int) from rfl] at hfix
  intro w hw
  refine enter1 _ Tryz.func84 rfl Tryz.ntmps84 rfl ?_ hw;refine sR ?_;refine o_box trivial rfl rfl rfl (fun b1 => ?_);refine oV ?_;refine nS ?_;refine oA Tryz.isAgg132 Tryz.sizeOf132 ?_;refine oI Tryz.call122 rfl hfix ?_;rintro _ I1 hx1 ⟨u1, rfl, hs1⟩;refine o_alloc trivial rfl Tryz.zeroValue132 rfl (fun b3 => ?_);refine oS Tryz.sizeOf132 ?_;refine nU ?_;refine oF 0 Tryz.underlying132 Tryz.sizeOf4 ?_;refine oL Tryz.isAgg4 ?_;refine nT ?_;refine cC rfl (fun h1 => ?_) (fun h1 => ?_)
  ·
   have f1 := h1;try simp only [bl] at f1
   exfalso; omega
  have f1 := h1;try simp only [bl] at f1
  refine kS ?_;refine oF 1 Tryz.underlying132 Tryz.sizeOf33 ?_;refine oL Tryz.isAgg33 ?_;refine oQ Tryz.call78 rfl (rPrint_any _ _ hs1 (by rw [Int.natAbs_natCast]; exact natW_few (val_lt ha.wds) (Nat.le_trans hs (by decide)))) ?_;refine oV ?_;refine nE ?_;refine ret1 rfl rfl ?_;refine leaf hx1 (List.nil_sublist _) (congrArg Value.string ?_)
  rw [val_natW, Int.natAbs_natCast]
theorem rPrint8_any (q : Rat) (va vb : Value) {I : Hp} (ha : Ws I va (natW q.num.natAbs)) (hb : Ws I vb (natW q.den)) (hk : Few 3000 q) (h0 : 0 ≤ q.num) (h1 : (digs q.num.natAbs).length ≤ 40) (h2 : (digs q.den).length ≤ 40) : Fun Tryz.prog 49 [.agg #[.bool (decide (q.num < 0)), va, vb]] I [] (fun v _ _ => v = .string (ratS q)) := by
  have hneg : decide (q.num < 0) = false := decide_eq_false (by omega)
  have hln : (natW q.num.natAbs).length ≤ 3000 := natW_few hk.num (Nat.le_refl _)
  have hld : (natW q.den).length ≤ 3000 := natW_few hk.den (Nat.le_refl _)
  have hfix := rFixQ_any q va vb ha hb hk
  have hsn : (decS (val (natW q.num.natAbs))).size ≤ 40 := by rw [val_natW, decS_size]; exact h1
  have hsd : (decS (val (natW q.den))).size ≤ 40 := by rw [val_natW, decS_size]; exact h2
  clear hk
  intro w hw
  refine enter1 _ Tryz.func49 rfl Tryz.ntmps49 rfl ?_ hw;refine sR ?_;refine o_box trivial rfl rfl rfl (fun b1 => ?_);refine oV ?_;refine nS ?_;refine oA Tryz.isAgg35 Tryz.sizeOf35 ?_;refine oI Tryz.call83 rfl hfix ?_;rintro _ I1 hx1 ⟨u1, u2, rfl, hs1, hs2⟩;refine o_alloc trivial rfl Tryz.zeroValue35 rfl (fun b3 => ?_);refine oS Tryz.sizeOf35 ?_;refine oN (tC (cS ?_))
  rw [hneg]
  refine cR ?_;refine oF 0 Tryz.underlying35 Tryz.sizeOf4 ?_;refine oL Tryz.isAgg4 ?_;refine oF 1 Tryz.underlying35 Tryz.sizeOf33 ?_;refine oL Tryz.isAgg33 ?_;refine o_buildS trivial rfl (bld132) rfl (.cons rfl rfl rfl (by repeat constructor) (.cons rfl (by first | exact (Ws.cells1 (by assumption)).1 | exact (Slc.cells1 (by assumption)).1 | rfl) (by rfl) (by repeat constructor) .nil)) ?_;refine oQ Tryz.call84 rfl (rPrint7_any _ _ hs1 (by omega)) ?_;refine oV ?_;refine nU ?_;refine oF 2 Tryz.underlying35 Tryz.sizeOf33 ?_;refine oL Tryz.isAgg33 ?_;refine oB Tryz.underlying33 Tryz.sizeOf134 Tryz.zeroValue134 fun b15 => ?_;refine l_sealW [1] .here (Wds_cons (by decide) Wds_nil) (by unfold maxLen; exact Nat.le_of_ble_eq_true rfl) (fun I2 hx2 hs3 => ?_);refine oQ Tryz.call85 rfl (rWords_any _ _ _ _ (hs2.le hx2.le) hs3) ?_;refine nT ?_;refine cC rfl (fun h1 => ?_) (fun h1 => ?_)
  ·
   have f1 := h1;try simp only [bl] at f1
   refine sR ?_;iterate 2 refine oV ?_
   refine nF ?_;refine ret1 rfl rfl ?_;refine leaf (hx1.trans hx2 (Nat.le_refl _)) (List.nil_sublist _) (congrArg Value.string ?_)
   have hd : q.den = 1 := by have := congrArg val f1; rw [val_natW] at this; rw [this]; rfl
   unfold ratS
   rw [if_pos hd, val_natW]
  have f1 := h1;try simp only [bl] at f1
  refine kS ?_;refine oV ?_;refine o_cat trivial rfl rfl rfl (by show _ + 1 ≤ _ ; omega) ?_;refine oF 2 Tryz.underlying35 Tryz.sizeOf33 ?_;refine oL Tryz.isAgg33 ?_;refine oQ Tryz.call78 rfl (rPrint_any _ _ (hs2.le hx2.le) (by omega)) ?_;refine o_cat trivial rfl rfl rfl (by rw [ByteArray.size_append] ; show _ + 1 + _ ≤ _ ; omega) ?_;refine oV ?_;refine nE ?_;refine ret1 rfl rfl ?_;refine leaf (hx1.trans hx2 (Nat.le_refl _)) (List.nil_sublist _) (congrArg Value.string ?_)
  have hd : ¬ q.den = 1 := fun h => f1 (by rw [h]; exact natW_one)
  unfold ratS
  rw [if_neg hd, val_natW, val_natW]
def awX : ByteArray := ⟨#[120]⟩
def awA : ByteArray := ⟨#[97]⟩
theorem nameZ_X : nameZ awX = true := by kernel_rfl
theorem nameZ_A : nameZ awA = true := by kernel_rfl
theorem isT_no {x : Tok} {k : Int} {t : ByteArray} (h : x.kind ≠ k) : isT x k t = false := by simp [isT, h]
theorem rrFew_any (vi vl vo va : Value) (p : ProgC) (ns : List NodeV) (most : Int) {I : Hp} (hp : ProgV I vi vl vo va p ns) :
    Fun Tryz.prog 16 [.agg #[vi, vl, vo, va], .int .i64 most] I [] (fun v _ _ => v = .bool (fewP p most)) := by
  have hsi := hp.si
  have hsl := hp.sl
  have hso := hp.so
  have hsa := hp.sa
  have hli := scs_len p.ins
  have hlo := scs_len p.outs
  have hll : (p.lets.map LetC.cells).length = p.lets.length := List.length_map _
  have hla := nds_len ns
  have hal : p.all.length = ns.length := by rw [← hp.eq, List.length_map]
  have hm1 := hsa.most
  unfold maxLen at hm1
  intro w hw
  refine enter2 _ Tryz.func16 rfl Tryz.ntmps16 rfl ?_ hw;refine sR ?_;refine o_box trivial rfl rfl rfl (fun b2 => ?_);refine oV ?_;refine nU ?_;refine oF 3 Tryz.underlying26 Tryz.sizeOf24 ?_;refine oL Tryz.isAgg24 ?_;refine o_lenSlc trivial rfl Tryz.underlying24 rfl (hsa) ?_;iterate 2 refine oV ?_
  refine' o_or trivial trivial rfl rfl rfl rfl rfl rfl rfl rfl (fun hb12 => ?_) ?_;rotate_left
  ·
   have fb12 := hb12
   try simp only [bl] at fb12
   refine gF hb12 0 Tryz.underlying26 Tryz.sizeOf22 ?_;refine gL hb12 Tryz.isAgg22 ?_;refine o_lenSlc (wS rfl rfl hb12) rfl Tryz.underlying22 rfl (hsi) ?_;refine gV hb12 ?_;refine oN ?_;exact joins rfl
  refine' o_or trivial trivial rfl rfl rfl rfl rfl rfl rfl rfl (fun hb18 => ?_) ?_;rotate_left
  ·
   have fb18 := hb18
   try simp only [bl] at fb18
   refine gF hb18 1 Tryz.underlying26 Tryz.sizeOf23 ?_;refine gL hb18 Tryz.isAgg23 ?_;refine o_lenSlc (wS rfl rfl hb18) rfl Tryz.underlying23 rfl (hsl) ?_;refine gV hb18 ?_;refine oN ?_;exact joins rfl
  refine' o_or trivial trivial rfl rfl rfl rfl rfl rfl rfl rfl (fun hb24 => ?_) ?_;rotate_left
  ·
   have fb24 := hb24
   try simp only [bl] at fb24
   refine gF hb24 2 Tryz.underlying26 Tryz.sizeOf22 ?_;refine gL hb24 Tryz.isAgg22 ?_;refine o_lenSlc (wS rfl rfl hb24) rfl Tryz.underlying22 rfl (hso) ?_;refine gV hb24 ?_;refine oN ?_;exact joins rfl
  refine nT ?_;refine cC rfl (fun h1 => ?_) (fun h1 => ?_)
  ·
   have f1 := h1;try simp only [bl] at f1
   refine sR ?_;refine oV ?_;refine nF ?_;refine ret1 rfl rfl ?_;refine leaf0 (congrArg Value.bool ?_); unfold fewP; rw [decide_eq_false (by omega), Bool.false_and]
  have f1 := h1;try simp only [bl] at f1
  have hg : decide ((p.all.length : Int) ≤ most ∧ p.ins.length ≤ 8 ∧ p.lets.length ≤ 8 ∧ p.outs.length ≤ 8) = true := decide_eq_true (by omega)
  refine cK (tC (cS (sR ?_)));refine oV ?_;refine oN (tC (cB ?_));refine c_loop (ι := Nat) [2] (.cons rfl .nil) (fun i => ns.length - i) (fun i E0 => (5, .int .i64 (i : Nat)) :: E0) (fun i => St w [] I [.box b2 (.cells #[vi, vl, vo, va] 26 (0, 0))]) (fun i => i ≤ ns.length ∧ ((ns.take i).all fun o => decide (o.c.n.length ≤ 6 ∧ o.c.d.length ≤ 6 ∧ o.c.name.size ≤ 60)) = true) (0) (sC rfl (sC rfl sN)) (fun _ h => h) (⟨Nat.zero_le _, rfl⟩) ?_;rintro i ⟨hi, hall⟩
  try dsimp only
  refine cS (sR ?_);refine oV ?_;refine oF 3 Tryz.underlying26 Tryz.sizeOf24 ?_;refine oL Tryz.isAgg24 ?_;refine o_lenSlc trivial rfl Tryz.underlying24 rfl (hsa) ?_;refine oV ?_;refine nT ?_;refine cC rfl (fun h2 => ?_) (fun h2 => ?_)
  ·
   have f2 := h2;try simp only [bl] at f2
   obtain ⟨o, ho⟩ : ∃ o, ns[i]? = some o := ⟨ns[i]'(by omega), List.getElem?_eq_getElem (by omega)⟩
   have hom := List.mem_of_getElem? ho
   obtain ⟨hvn, hvd⟩ := hp.ok o hom
   refine cK (tC (cS (cB (sR ?_))));refine oF 3 Tryz.underlying26 Tryz.sizeOf24 ?_;refine oL Tryz.isAgg24 ?_;refine oV ?_;refine o_elem trivial rfl Tryz.underlying24 Tryz.sizeOf37 rfl (hsa) rfl (by omega) ?_;refine oF 5 Tryz.underlying37 Tryz.sizeOf35 ?_;refine o_loadAI trivial rfl Tryz.isAgg35 Tryz.sizeOf35 rfl rfl (fun k y hk => by have hc := nds_at hsa ho (5 + k) y (by rw [Nat.add_comm]; exact hk); rw [← Nat.add_assoc] at hc; exact hc) ?_;refine oB Tryz.underlying72 Tryz.sizeOf35 Tryz.zeroValue35 fun b43 => ?_;refine l_sealB .here (fun I1 hx1 hb43 => ?_);refine oQ Tryz.call40 rfl (rFew_any _ _ 6 (PtV.lone hb43 (hvn.le hx1.le) (hvd.le hx1.le))) ?_;refine oV ?_;refine oN (tC (cS ?_))
   rw [show ([(⟨o.c.neg, o.c.n, o.c.d, o.vn, o.vd⟩ : NV)].all fun x => decide ((x.n.length : Int) ≤ 6 ∧ (x.d.length : Int) ≤ 6)) = decide ((o.c.n.length : Int) ≤ 6 ∧ (o.c.d.length : Int) ≤ 6) from Bool.and_true _]
   refine cR ?_;iterate 2 refine oV ?_
   refine' o_or trivial trivial rfl rfl rfl rfl rfl rfl rfl rfl (fun hb47 => ?_) ?_;rotate_left
   ·
    have fb47 := hb47
    try simp only [bl] at fb47
    refine gF hb47 3 Tryz.underlying26 Tryz.sizeOf24 ?_;refine gL hb47 Tryz.isAgg24 ?_;refine gV hb47 ?_;refine o_elem (wS rfl rfl hb47) rfl Tryz.underlying24 Tryz.sizeOf37 rfl (hsa) rfl (by omega) ?_;refine gF hb47 4 Tryz.underlying37 Tryz.sizeOf9 ?_;refine o_load1I (wS rfl rfl hb47) rfl Tryz.isAgg9 rfl (hx1.le.cell (nds_at hsa ho 4 _ rfl)) ?_;refine o_lenS (wS rfl rfl hb47) rfl Tryz.underlying9 rfl ?_;refine gV hb47 ?_;refine oN ?_;exact joins rfl
   refine nT ?_;refine cC rfl (fun h3 => ?_) (fun h3 => ?_)
   ·
    have f3 := h3;try simp only [bl] at f3
    refine sR ?_;refine oV ?_;refine oN (tC (cT (blk_r (tR (tR (blk_r (tR ?_)))))));refine ret1 rfl rfl ?_;refine leaf hx1 (List.nil_sublist _) (congrArg Value.bool ?_)
    unfold fewP
    rw [hg, Bool.true_and]
    symm
    rw [List.all_eq_false]
    exact ⟨o.c, by rw [← hp.eq]; exact List.mem_map_of_mem hom, by simp only [decide_eq_true_eq]; omega⟩
   have f3 := h3;try simp only [bl] at f3
   refine cK (blk_n (tC (cR ?_)));refine oV ?_
   first | (refine o_add trivial rfl rfl rfl ?_ ?_; (omega)) | refine oV ?_
   refine oV ?_;refine oN ?_
   exact again (i + 1) (sC rfl (sC rfl sN)) (fun _ h => (h.sort (by repeat constructor)).fewer hx1.le) (by show ns.length - (i + 1) < ns.length - i; omega) ⟨by show i + 1 ≤ _; omega, by
     rw [List.take_add_one, ho, List.all_append, hall]
     simp only [Option.toList, List.all_cons, List.all_nil, Bool.and_true, Bool.true_and, decide_eq_true_eq]
     omega⟩
  have f2 := h2;try simp only [bl] at f2
  refine c_exit (then_x (then_x (blk_eq rfl (tC (sR ?_)))));refine oV ?_;refine nE ?_;refine ret1 rfl rfl ?_;refine leaf0 (congrArg Value.bool ?_)
  rw [List.take_of_length_le (by omega)] at hall
  unfold fewP
  rw [hg, Bool.true_and, ← hp.eq, List.all_map]
  exact hall.symm
theorem bgGo_nil (all : List NodeC) (fr : Int) : bgGo all [] fr = some fr := rfl
theorem bgGo_cons (all : List NodeC) (l : LetC) (ls : List LetC) (fr : Int) : bgGo all (l :: ls) fr = if nameZ l.name = true ∧ fr ≤ l.root ∧ l.root < all.length ∧ begZ all fr all.length l.root = fr then bgGo all ls (l.root + 1) else none := rfl
def blN (c : NodeC) : NodeC := if c.kind ≤ 1 then refN ⟨#[120]⟩ else ⟨c.kind, c.a, if c.kind ≤ 5 then c.b else 0, 0, ⟨#[]⟩, false, [], []⟩
theorem blN_low {c : NodeC} (h : c.kind ≤ 1) : blN c = refN ⟨#[120]⟩ := if_pos h
theorem blN_up {c : NodeC} (h : ¬ c.kind ≤ 1) : blN c = ⟨c.kind, c.a, if c.kind ≤ 5 then c.b else 0, 0, ⟨#[]⟩, false, [], []⟩ := if_neg h
theorem blN_parts {c : NodeC} (h0 : 0 ≤ c.kind) (h7 : c.kind ≤ 7) : (partsZ (blN c)).isSome = true := by
  by_cases h1 : c.kind ≤ 1
  · rw [blN_low h1, parts_ref (t := ⟨#[120]⟩) nameZ_X]; rfl
  · rw [blN_up h1]
    by_cases h5 : c.kind ≤ 5
    · rw [if_pos h5]
      have := parts_bin (k := c.kind) (a := c.a) (b := c.b) ⟨by omega, h5⟩
      unfold binN at this
      rw [this]; rfl
    · rw [if_neg h5]
      by_cases h6 : c.kind = 6
      · have := parts_neg c.a
        unfold negN at this
        rw [h6, this]; rfl
      · have := parts_pow (a := c.a) (e := 0) (by decide)
        unfold powN at this
        rw [show c.kind = 7 by omega, this]; rfl
theorem begZ_bl {l : List NodeC} {fr : Int} (hk : ∀ c ∈ l, 0 ≤ c.kind ∧ c.kind ≤ 7) : ∀ (f : Nat) (i : Int), begZ (l.map blN) fr f i = begZ l fr f i := by
  intro f
  induction f with
  | zero => intro i; rfl
  | succ f ih =>
    intro i
    by_cases hi : i < fr
    · rw [begZ_low _ hi, begZ_low _ hi]
    · cases hc : l[i.toNat]? with
      | none =>
        have hm : (l.map blN)[i.toNat]? = none := by rw [List.getElem?_map, hc]; rfl
        unfold begZ
        rw [if_neg hi, if_neg hi, hm, hc]
      | some c =>
        have hm : (l.map blN)[i.toNat]? = some (blN c) := by rw [List.getElem?_map, hc]; rfl
        obtain ⟨k0, k7⟩ := hk c (List.mem_of_getElem? hc)
        rw [begZ_step hi hm, begZ_step hi hc]
        simp only [ih]
        by_cases h1 : c.kind ≤ 1
        · rw [blN_low h1, if_pos (show (refN ⟨#[120]⟩).kind = 0 ∨ _ from Or.inl rfl), if_pos (by omega)]
        · rw [blN_up h1]
          dsimp only
          by_cases h5 : c.kind ≤ 5
          · rw [if_pos h5]
          · have e01 : ¬ (c.kind = 0 ∨ c.kind = 1) := by omega
            have e67 : c.kind = 6 ∨ c.kind = 7 := by omega
            simp only [if_neg e01, if_pos e67]
theorem bgGo_bl {all : List NodeC} (hk : ∀ c ∈ all, 0 ≤ c.kind ∧ c.kind ≤ 7) : ∀ (ls : List LetC) (fr : Int), bgGo (all.map blN) ls fr = bgGo all ls fr := by
  intro ls
  induction ls with
  | nil => intro fr; rfl
  | cons l ls ih => intro fr; rw [bgGo_cons, bgGo_cons, ih, List.length_map, begZ_bl hk]
theorem low_bl {all : List NodeC} {ls : List LetC} (hk : ∀ c ∈ all, 0 ≤ c.kind ∧ c.kind ≤ 7) (h : bgGo all ls 0 = some (all.length : Int)) : LowN all := by
  have hb : bgGo (all.map blN) ls 0 = some ((all.map blN).length : Int) := by rw [bgGo_bl hk, List.length_map]; exact h
  obtain ⟨l, hl⟩ := right_shaped (p := ⟨[], ls, [], all.map blN⟩) (List.all_eq_true.2 fun c hc => by
    obtain ⟨c', hc', rfl⟩ := List.mem_map.1 hc
    exact blN_parts (hk c' hc').1 (hk c' hc').2) hb
  have hlow := shaped_low hl
  intro i c hc h1
  have := hlow i (blN c) (by show (all.map blN)[i]? = _; rw [List.getElem?_map, hc]; rfl)
  rw [blN_up (by omega)] at this
  have h2 := this h1
  dsimp only at h2
  refine ⟨h2.1, h2.2.1, fun h5 => ?_⟩
  have h3 := h2.2.2 h5
  rw [if_pos h5] at h3
  exact h3
theorem rrRightAll_any (vi vl vo va : Value) (p : ProgC) (ns : List NodeV) {I : Hp} (hp : ProgV I vi vl vo va p ns) (hf : ∀ o ∈ ns, o.c.few 35184372088400) :
    Fun Tryz.prog 21 [.agg #[vi, vl, vo, va]] I [] (fun v _ _ => ∃ b, v = .bool b ∧ ((∀ o ∈ ns, o.c.few 3000) → b = rightZ p)) := by
  have hsi := hp.si
  have hsl := hp.sl
  have hso := hp.so
  have hsa := hp.sa
  have hll : (p.lets.map LetC.cells).length = p.lets.length := List.length_map _
  have hla := nds_len ns
  have hal : p.all.length = ns.length := by rw [← hp.eq, List.length_map]
  have hm1 := hsa.most
  unfold maxLen at hm1
  intro w hw
  refine enter1 _ Tryz.func21 rfl Tryz.ntmps21 rfl ?_ hw;refine sR ?_;refine o_box trivial rfl rfl rfl (fun b1 => ?_);refine oV ?_;refine nS ?_;refine oF 0 Tryz.underlying26 Tryz.sizeOf22 ?_;refine oL Tryz.isAgg22 ?_;refine oQ Tryz.call44 rfl (rrList_any vi p.ins 1 hsi) ?_;refine oV ?_;refine nS ?_;refine oF 2 Tryz.underlying26 Tryz.sizeOf22 ?_;refine oL Tryz.isAgg22 ?_;refine oQ Tryz.call44 rfl (rrList_any vo p.outs 1 hso) ?_;refine oV ?_;refine nU ?_;iterate 2 refine oV ?_
  refine' o_or trivial trivial rfl rfl rfl rfl rfl rfl rfl rfl (fun hb20 => ?_) ?_;rotate_left
  ·
   have fb20 := hb20
   try simp only [bl] at fb20
   iterate 2 refine gV hb20 ?_
   refine oN ?_;exact joins rfl
  refine' o_or trivial trivial rfl rfl rfl rfl rfl rfl rfl rfl (fun hb24 => ?_) ?_;rotate_left
  ·
   have fb24 := hb24
   try simp only [bl] at fb24
   refine gF hb24 1 Tryz.underlying26 Tryz.sizeOf23 ?_;refine gL hb24 Tryz.isAgg23 ?_;refine o_lenSlc (wS rfl rfl hb24) rfl Tryz.underlying23 rfl (hsl) ?_;refine gV hb24 ?_;refine oN ?_;exact joins rfl
  refine' o_or trivial trivial rfl rfl rfl rfl rfl rfl rfl rfl (fun hb30 => ?_) ?_;rotate_left
  ·
   have fb30 := hb30
   try simp only [bl] at fb30
   refine gF hb30 3 Tryz.underlying26 Tryz.sizeOf24 ?_;refine gL hb30 Tryz.isAgg24 ?_;refine o_lenSlc (wS rfl rfl hb30) rfl Tryz.underlying24 rfl (hsa) ?_;refine gV hb30 ?_;refine oN ?_;exact joins rfl
  refine nT ?_;refine cC rfl (fun h1 => ?_) (fun h1 => ?_)
  ·
   have f1 := h1;try simp only [bl] at f1
   refine sR ?_;refine oV ?_;refine nF ?_;refine ret1 rfl rfl ?_;refine leaf0 ⟨_, rfl, fun hw => ?_⟩;refine Eq.symm (Bool.eq_false_iff.2 fun hh => ?_)
   unfold rightZ at hh
   simp only [Bool.and_eq_true, decide_eq_true_eq, beq_iff_eq] at hh
   obtain ⟨⟨⟨⟨⟨⟨⟨⟨a1, a2⟩, a3⟩, ⟨b1, b2⟩, b3⟩, c1⟩, c2⟩, c3⟩, c4⟩, c5⟩ := hh
   simp [a1, b1] at h1
   omega
  have f1 := h1;try simp only [bl] at f1
  have hsz : (namesOK p.ins = true ∧ 1 ≤ p.ins.length ∧ p.ins.length ≤ 40) ∧ (namesOK p.outs = true ∧ 1 ≤ p.outs.length ∧ p.outs.length ≤ 40) ∧ p.lets.length ≤ 40 ∧ p.all.length ≤ 400 := by
    obtain ⟨⟨⟨⟨⟨a1, a2⟩, a3⟩, ⟨b1, b2⟩, b3⟩, c1⟩, c2⟩ := f1
    exact ⟨⟨a1, by omega, a3⟩, ⟨b1, by omega, b3⟩, by omega, by omega⟩
  refine cK (tC (cS (sR ?_)));refine oV ?_;refine oN (tC (cB ?_));refine c_loop (ι := Nat) [1] (.cons rfl .nil) (fun i => ns.length - i) (fun i E0 => (5, .int .i64 (i : Nat)) :: E0) (fun i => St w [] I [.box b1 (.cells #[vi, vl, vo, va] 26 (0, 0))]) (fun i => i ≤ ns.length ∧ (∀ c ∈ p.all.take i, 0 ≤ c.kind ∧ c.kind ≤ 7) ∧ ((∀ o ∈ ns, o.c.few 3000) → p.all.all (fun c => (partsZ c).isSome) = (p.all.drop i).all (fun c => (partsZ c).isSome))) (0) (sC rfl (sC rfl sN)) (fun _ h => h) (⟨Nat.zero_le _, (fun c hc => by cases hc), fun _ => rfl⟩) ?_;rintro i ⟨hi, hkd, hall⟩
  try dsimp only
  refine cS (sR ?_);refine oV ?_;refine oF 3 Tryz.underlying26 Tryz.sizeOf24 ?_;refine oL Tryz.isAgg24 ?_;refine o_lenSlc trivial rfl Tryz.underlying24 rfl (hsa) ?_;refine oV ?_;refine nT ?_;refine cC rfl (fun h2 => ?_) (fun h2 => ?_)
  ·
   have f2 := h2;try simp only [bl] at f2
   obtain ⟨o, ho⟩ : ∃ o, ns[i]? = some o := ⟨ns[i]'(by omega), List.getElem?_eq_getElem (by omega)⟩
   have hom := List.mem_of_getElem? ho
   have hoc : p.all[i]? = some o.c := by rw [← hp.eq, List.getElem?_map, ho]; rfl
   have hw1 : Ws I o.vn o.c.n := (hp.ok o hom).1
   have hw2 : Ws I o.vd o.c.d := (hp.ok o hom).2
   refine cK (tC (cS (cB (sR ?_))));refine oF 3 Tryz.underlying26 Tryz.sizeOf24 ?_;refine oL Tryz.isAgg24 ?_;refine oV ?_;refine o_elem trivial rfl Tryz.underlying24 Tryz.sizeOf37 rfl (hsa) rfl (by omega) ?_;refine o_loadAI trivial rfl Tryz.isAgg37 Tryz.sizeOf37 rfl rfl (nds_at hsa ho) ?_;refine o_call0 trivial rfl Tryz.call45 rfl (rrFieldsG_any o (hp.ok o hom) (hf o hom)) ?_;rintro _ ⟨rb, rfl, hrb, hrw⟩;refine oV ?_;refine nS ?_;iterate 2 refine oV ?_
   refine nT ?_;refine cC rfl (fun h3 => ?_) (fun h3 => ?_)
   ·
    have f3 := h3;try simp only [bl] at f3
    refine sR ?_;refine oV ?_;refine oN (tC (cT (blk_r (tR (tR (blk_r (tR ?_)))))));refine ret1 rfl rfl ?_;refine leaf0 ⟨_, rfl, fun hw => ?_⟩;refine Eq.symm (Bool.eq_false_iff.2 fun hh => ?_)
    unfold rightZ at hh
    simp only [Bool.and_eq_true] at hh
    have h9 := hh.1.1.2
    rw [hall hw, all_step (p := fun c => (partsZ c).isSome) hoc, ← hrw (hw o hom), show rb = false by simpa using h3] at h9
    cases h9
   have f3 := h3;try simp only [bl] at f3
   refine cK (blk_n (tC (cR ?_)));refine oV ?_
   first | (refine o_add trivial rfl rfl rfl ?_ ?_; (omega)) | refine oV ?_
   refine oV ?_;refine oN ?_
   exact again (i + 1) (sC rfl (sC rfl sN)) (fun _ h => h) (by show ns.length - (i + 1) < ns.length - i; omega) ⟨by show i + 1 ≤ ns.length; omega, fun c hc => by
     rw [List.take_add_one, hoc] at hc
     rcases List.mem_append.1 hc with hc | hc
     · exact hkd c hc
     · rw [List.mem_singleton.1 hc]; exact hrb (by simpa using h3), fun hw => by rw [hall hw, all_step (p := fun c => (partsZ c).isSome) hoc, ← hrw (hw o hom), show rb = true by simpa using h3]; rfl⟩
  have f2 := h2;try simp only [bl] at f2
  have hin : i = ns.length := by omega
  have hall1 : (∀ o ∈ ns, o.c.few 3000) → p.all.all (fun c => (partsZ c).isSome) = true := fun hw => by rw [hall hw, hin, ← hal, List.drop_length]; rfl
  have hkn : ∀ c ∈ p.all, 0 ≤ c.kind ∧ c.kind ≤ 7 := fun c hc => hkd c (by rw [hin, ← hal, List.take_length]; exact hc)
  have hkm : ∀ c ∈ ns.map NodeV.c, 0 ≤ c.kind ∧ c.kind ≤ 7 := by rw [hp.eq]; exact hkn
  refine c_exit (then_x (then_x (blk_eq rfl (tC (sR ?_)))));refine oV ?_;refine nU ?_;refine oV ?_;refine oN (tC (cB ?_));refine c_loop (ι := Nat × Int) [1] (.cons rfl .nil) (fun x => p.lets.length - x.1) (fun x E0 => (7, .int .i64 x.2) :: (8, .int .i64 (x.1 : Nat)) :: E0) (fun x => St w [] I [.box b1 (.cells #[vi, vl, vo, va] 26 (0, 0))]) (fun x => x.1 ≤ p.lets.length ∧ 0 ≤ x.2 ∧ x.2 ≤ ns.length ∧ bgGo p.all p.lets 0 = bgGo p.all (p.lets.drop x.1) x.2) ((0, 0)) (sC rfl (sC rfl (sC rfl sN))) (fun _ h => h) (⟨Nat.zero_le _, Int.le_refl _, by omega, rfl⟩) ?_;rintro ⟨j, fr⟩ ⟨hj, hfr0, hfr1, hgo⟩
  try dsimp only
  refine cS (sR ?_);refine oV ?_;refine oF 1 Tryz.underlying26 Tryz.sizeOf23 ?_;refine oL Tryz.isAgg23 ?_;refine o_lenSlc trivial rfl Tryz.underlying23 rfl (hsl) ?_;refine oV ?_;refine nT ?_;refine cC rfl (fun h4 => ?_) (fun h4 => ?_)
  ·
   have f4 := h4;try simp only [bl] at f4
   obtain ⟨c, hc⟩ : ∃ c, p.lets[j]? = some c := ⟨p.lets[j]'(by omega), List.getElem?_eq_getElem (by omega)⟩
   have hdr : p.lets.drop j = c :: p.lets.drop (j + 1) := by rw [List.drop_eq_getElem_cons (List.getElem?_eq_some_iff.1 hc).1, (List.getElem?_eq_some_iff.1 hc).2]
   rw [hdr, bgGo_cons] at hgo
   refine cK (tC (cS (cB (sR ?_))));refine oF 1 Tryz.underlying26 Tryz.sizeOf23 ?_;refine oL Tryz.isAgg23 ?_;refine oV ?_;refine o_elem trivial rfl Tryz.underlying23 Tryz.sizeOf39 rfl (hsl) rfl (by omega) ?_;refine oF 1 Tryz.underlying39 Tryz.sizeOf3 ?_;refine o_load1I trivial rfl Tryz.isAgg3 rfl (lts_at hsl hc 1 _ rfl) ?_;refine oV ?_;refine nS ?_;refine oF 1 Tryz.underlying26 Tryz.sizeOf23 ?_;refine oL Tryz.isAgg23 ?_;refine oV ?_;refine o_elem trivial rfl Tryz.underlying23 Tryz.sizeOf39 rfl (hsl) rfl (by omega) ?_;refine oF 0 Tryz.underlying39 Tryz.sizeOf9 ?_;refine o_load1I trivial rfl Tryz.isAgg9 rfl (lts_at hsl hc 0 _ rfl) ?_;refine oP trivial rfl Tryz.call46 rfl (refName_all _) ?_;refine oV ?_;refine nU ?_;iterate 2 refine oV ?_
   refine' o_or trivial trivial rfl rfl rfl rfl rfl rfl rfl rfl (fun hb73 => ?_) ?_;rotate_left
   ·
    iterate 3 refine gV hb73 ?_
    refine oN ?_;exact joins rfl
   refine' o_or trivial trivial rfl rfl rfl rfl rfl rfl rfl rfl (fun hb78 => ?_) ?_;rotate_left
   ·
    have fb78 := hb78
    try simp only [bl] at fb78
    refine gV hb78 ?_;refine gF hb78 3 Tryz.underlying26 Tryz.sizeOf24 ?_;refine gL hb78 Tryz.isAgg24 ?_;refine o_lenSlc (wS rfl rfl hb78) rfl Tryz.underlying24 rfl (hsa) ?_;refine gV hb78 ?_;refine oN ?_;exact joins rfl
   refine nT ?_;refine cC rfl (fun h5 => ?_) (fun h5 => ?_)
   ·
    have f5 := h5;try simp only [bl] at f5
    refine sR ?_;refine oV ?_;refine oN (tC (cT (tR (blk_r (tR (tR (blk_r (tR ?_))))))));refine ret1 rfl rfl ?_;refine leaf0 ⟨_, rfl, fun hw => ?_⟩
    rw [if_neg (by rintro ⟨g1, g2, g3, g4⟩; simp [g1] at h5; omega)] at hgo
    unfold rightZ
    rw [hgo]
    simp
   have f5 := h5;try simp only [bl] at f5
   refine cK (tC (cS (sR ?_)));refine oF 3 Tryz.underlying26 Tryz.sizeOf24 ?_;refine oL Tryz.isAgg24 ?_;iterate 2 refine oV ?_
   refine oQ Tryz.call47 rfl (rrBegin_any va ns fr hsa hp.ok hkm (by omega) (by omega) p.all.length c.root (by omega) (by omega) (by omega)) ?_;iterate 2 refine oV ?_
   refine nT ?_;refine cC rfl (fun h6 => ?_) (fun h6 => ?_)
   ·
    have f6 := h6;try simp only [bl] at f6
    refine sR ?_;refine oV ?_;refine oN (tC (cT (tR (blk_r (tR (tR (blk_r (tR ?_))))))));refine ret1 rfl rfl ?_;refine leaf0 ⟨_, rfl, fun hw => ?_⟩
    rw [if_neg (by rintro ⟨g1, g2, g3, g4⟩; rw [hp.eq] at f6; exact f6 g4)] at hgo
    unfold rightZ
    rw [hgo]
    simp
   have f6 := h6;try simp only [bl] at f6
   refine cK (tC (cR ?_));refine oV ?_
   first | (refine o_add trivial rfl rfl rfl ?_ ?_; (omega)) | refine oV ?_
   refine oV ?_;refine oN (blk_n (tC (cR ?_)));refine oV ?_
   first | (refine o_add trivial rfl rfl rfl ?_ ?_; (omega)) | refine oV ?_
   refine oV ?_;refine oN ?_
   exact again (j + 1, c.root + 1) (sC rfl (sC rfl (sC rfl sN))) (fun _ h => h) (by show p.lets.length - (j + 1) < p.lets.length - j; omega) ⟨by show j + 1 ≤ p.lets.length; omega, by show 0 ≤ c.root + 1; omega, by show c.root + 1 ≤ ns.length; omega, by
     rw [if_pos ⟨by simp at h5; exact h5.1.1, by omega, by omega, by rw [hp.eq] at f6; exact f6⟩] at hgo
     exact hgo⟩
  have f4 := h4;try simp only [bl] at f4
  have hjn : j = p.lets.length := by omega
  rw [hjn, List.drop_length, bgGo_nil] at hgo
  refine c_exit (then_x (then_x (blk_eq rfl (tC (cS (sR ?_))))));refine oV ?_;refine oF 3 Tryz.underlying26 Tryz.sizeOf24 ?_;refine oL Tryz.isAgg24 ?_;refine o_lenSlc trivial rfl Tryz.underlying24 rfl (hsa) ?_;refine oV ?_;refine nT ?_;refine cC rfl (fun h7 => ?_) (fun h7 => ?_)
  ·
   have f7 := h7;try simp only [bl] at f7
   refine sR ?_;refine oV ?_;refine nF ?_;refine ret1 rfl rfl ?_;refine leaf0 ⟨_, rfl, fun hw => ?_⟩
   have : (bgGo p.all p.lets 0 == some (p.all.length : Int)) = false := by rw [hgo, beq_eq_false_iff_ne]; intro h; have := Option.some.inj h; omega
   unfold rightZ
   rw [this]
   simp
  have f7 := h7;try simp only [bl] at f7
  have hgo1 : bgGo p.all p.lets 0 = some (p.all.length : Int) := by rw [hgo]; congr 1; omega
  have hlow := low_bl hkn hgo1
  refine kS ?_;refine oA Tryz.isAgg26 Tryz.sizeOf26 ?_;refine oQ Tryz.call48 rfl (rrLong_any vi vl vo va p ns hp hlow (by omega)) ?_;refine oV ?_;refine nS ?_;iterate 3 refine oV ?_
  refine nE ?_;refine ret1 rfl rfl ?_;refine leaf0 ⟨_, rfl, fun hw => ?_⟩
  unfold rightZ
  rw [hall1 hw, hgo1, hsz.1.1, hsz.2.1.1]
  rw [decide_eq_true hsz.1.2.1, decide_eq_true hsz.1.2.2, decide_eq_true hsz.2.1.2.1, decide_eq_true hsz.2.1.2.2, decide_eq_true hsz.2.2.1, decide_eq_true hsz.2.2.2]
  simp
theorem rrRight_any (vi vl vo va : Value) (p : ProgC) (ns : List NodeV) {I : Hp} (hp : ProgV I vi vl vo va p ns) (hf : ∀ o ∈ ns, o.c.few 3000) :
    Fun Tryz.prog 21 [.agg #[vi, vl, vo, va]] I [] (fun v _ _ => v = .bool (rightZ p)) :=
  fun_mono (rrRightAll_any vi vl vo va p ns hp (fun o ho => ⟨Nat.le_trans (hf o ho).1 (by decide), Nat.le_trans (hf o ho).2 (by decide)⟩)) fun v I' B' ⟨b, hv, hb⟩ => by rw [hv, hb hf]
theorem few_of {p : ProgC} {ns : List NodeV} {k : Int} (h : fewP p k = true) (he : ns.map NodeV.c = p.all) : (p.all.length : Int) ≤ k ∧ p.ins.length ≤ 8 ∧ p.lets.length ≤ 8 ∧ p.outs.length ≤ 8 ∧ (∀ o ∈ ns, o.c.few 6) ∧ ∀ o ∈ ns, o.c.name.size ≤ 60 := by
  unfold fewP at h
  rw [Bool.and_eq_true, decide_eq_true_eq, List.all_eq_true] at h
  obtain ⟨⟨h1, h2, h3, h4⟩, h5⟩ := h
  refine ⟨h1, h2, h3, h4, fun o ho => ?_, fun o ho => ?_⟩
  · have := h5 o.c (by rw [← he]; exact List.mem_map_of_mem ho)
    rw [decide_eq_true_eq] at this
    exact ⟨this.1, this.2.1⟩
  · have := h5 o.c (by rw [← he]; exact List.mem_map_of_mem ho)
    rw [decide_eq_true_eq] at this
    exact this.2.2
theorem few_up {c : NodeC} {k m : Nat} (h : c.few k) (hk : k ≤ m) : c.few m := ⟨Nat.le_trans h.1 hk, Nat.le_trans h.2 hk⟩
theorem nBinds_any (k : Int) : PureC Tryz.prog 52 [.int .i64 k] (.int .i64 (bindZ k)) := by
  intro w
  refine enter1 _ Tryz.func52 rfl Tryz.ntmps52 rfl ?_ (S := fun w1 => w1 = w) rfl;refine sR ?_;refine oV ?_;refine oN (tC (cS (cB (sR ?_))));iterate 2 refine oV ?_
  refine' o_or trivial trivial rfl rfl rfl rfl rfl rfl rfl rfl (fun hb6 => ?_) ?_;rotate_left
  ·
   iterate 2 refine gV hb6 ?_
   refine oN ?_;exact joins rfl
  refine oV ?_;refine nT ?_;refine cC rfl (fun h1 => ?_) (fun h1 => ?_)
  ·
   have f1 := h1;try simp only [bl] at f1
   refine sR ?_;refine oV ?_;refine oN (tC (cT (blk_r (tR ?_))));refine ret1 rfl rfl ?_;refine fun _ hw => ⟨congrArg (Value.int .i64) ?_, hw⟩; unfold bindZ; (repeat' split) <;> omega
  have f1 := h1;try simp only [bl] at f1
  refine sR ?_;iterate 2 refine oV ?_
  refine' o_or trivial trivial rfl rfl rfl rfl rfl rfl rfl rfl (fun hb13 => ?_) ?_;rotate_left
  ·
   iterate 2 refine gV hb13 ?_
   refine oN ?_;exact joins rfl
  refine oV ?_;refine nT ?_;refine cC rfl (fun h2 => ?_) (fun h2 => ?_)
  ·
   have f2 := h2;try simp only [bl] at f2
   refine sR ?_;refine oV ?_;refine oN (tC (cT (blk_r (tR ?_))));refine ret1 rfl rfl ?_;refine fun _ hw => ⟨congrArg (Value.int .i64) ?_, hw⟩; unfold bindZ; (repeat' split) <;> omega
  have f2 := h2;try simp only [bl] at f2
  refine sR ?_;iterate 3 refine oV ?_
  refine nT ?_;refine cC rfl (fun h3 => ?_) (fun h3 => ?_)
  ·
   have f3 := h3;try simp only [bl] at f3
   refine sR ?_;refine oV ?_;refine oN (tC (cT (blk_r (tR ?_))));refine ret1 rfl rfl ?_;refine fun _ hw => ⟨congrArg (Value.int .i64) ?_, hw⟩; unfold bindZ; (repeat' split) <;> omega
  have f3 := h3;try simp only [bl] at f3
  refine sR ?_;iterate 3 refine oV ?_
  refine nT ?_;refine cC rfl (fun h4 => ?_) (fun h4 => ?_)
  ·
   have f4 := h4;try simp only [bl] at f4
   refine sR ?_;refine oV ?_;refine oN (tC (cT (blk_r (tR ?_))));refine ret1 rfl rfl ?_;refine fun _ hw => ⟨congrArg (Value.int .i64) ?_, hw⟩; unfold bindZ; (repeat' split) <;> omega
  have f4 := h4;try simp only [bl] at f4
  refine cK (blk_n (tC (sR ?_)));refine oV ?_;refine nE ?_;refine ret1 rfl rfl ?_;refine fun _ hw => ⟨congrArg (Value.int .i64) ?_, hw⟩; unfold bindZ; (repeat' split) <;> omega
def sgS (k : Int) : ByteArray := ⟨#[32]⟩ ++ signS k ++ ⟨#[32]⟩
theorem sgs_get {k : Int} (h : 2 ≤ k ∧ k ≤ 5) : [Value.string ⟨#[32, 43, 32]⟩, .string ⟨#[32, 45, 32]⟩, .string ⟨#[32, 42, 32]⟩, .string ⟨#[32, 47, 32]⟩][(k - 2).toNat]? = some (.string (sgS k)) := by
  rcases (show k = 2 ∨ k = 3 ∨ k = 4 ∨ k = 5 by omega) with rfl | rfl | rfl | rfl <;> rfl
theorem nPart_any (va : Value) (ns : List NodeV) {I : Hp} (hsa : Slc I 8 va (nds ns)) (hok : ∀ o ∈ ns, o.ok I) (hn : ns.length ≤ 1000) (x : Ex) (i least : Int) (hi : NodeAt (ns.map NodeV.c) i x)
    (hnode : Fun Tryz.prog 22 [va, .int .i64 i] I [] (fun v _ _ => v = .string (txZ (shP x)))) :
    Fun Tryz.prog 50 [va, .int .i64 i, .int .i64 least] I [] (fun v _ _ => v = .string (txZ (partP x least))) := by
  have hln := nds_len ns
  have hin := hi.in_
  rw [List.length_map] at hin
  have hfew := hi.few
  rw [List.length_map] at hfew
  obtain ⟨k, rfl⟩ : ∃ k : Nat, i = k := ⟨i.toNat, by omega⟩
  obtain ⟨o, ho⟩ : ∃ o, ns[k]? = some o := ⟨ns[k]'(by omega), List.getElem?_eq_getElem (by omega)⟩
  obtain ⟨e0, _⟩ := bind_kind hi (c := o.c) (by rw [Int.toNat_natCast, List.getElem?_map, ho]; rfl)
  have hxs := sh_size x hi.ok
  have hpart : txZ (partP x least) = betw (txZ (shP x)) (decide (bindZ o.c.kind < least)) := by rw [e0]; exact brk_text _ _
  intro w hw
  refine enter3 _ Tryz.func50 rfl Tryz.ntmps50 rfl ?_ hw;refine sR ?_;refine oV ?_;refine nS ?_;iterate 2 refine oV ?_
  refine oQ Tryz.call22 rfl hnode ?_;refine oV ?_;refine nU ?_;iterate 2 refine oV ?_
  refine o_elem trivial rfl Tryz.underlying24 Tryz.sizeOf37 rfl (hsa) rfl (by omega) ?_;refine oF 0 Tryz.underlying37 Tryz.sizeOf3 ?_;refine o_load1I trivial rfl Tryz.isAgg3 rfl (nds_at hsa ho 0 _ rfl) ?_;refine oP trivial rfl Tryz.call52 rfl (nBinds_any o.c.kind) ?_;iterate 2 refine oV ?_
  refine nT ?_;refine cC rfl (fun h1 => ?_) (fun h1 => ?_)
  ·
   have f1 := h1;try simp only [bl] at f1
   refine sR ?_;refine oV ?_;refine o_cat trivial rfl rfl rfl (by show 1 + _ ≤ _; omega) ?_;refine o_cat trivial rfl rfl rfl (by rw [ByteArray.size_append]; show 1 + _ + 1 ≤ _; omega) ?_;refine oV ?_;refine nF ?_;refine ret1 rfl rfl ?_;refine leaf0 (congrArg Value.string ?_); rw [hpart, decide_eq_true f1]; rfl
  have f1 := h1;try simp only [bl] at f1
  refine kS ?_;iterate 2 refine oV ?_
  refine nE ?_;refine ret1 rfl rfl ?_;refine leaf0 (congrArg Value.string ?_); rw [hpart, decide_eq_false (by omega)]; rfl
theorem nNode_any (va : Value) (ns : List NodeV) {I : Hp} (hsa : Slc I 8 va (nds ns)) (hok : ∀ o ∈ ns, o.ok I) (hf : ∀ o ∈ ns, o.c.few 3000) (hn : ns.length ≤ 1000) : ∀ (N : Nat) (x : Ex), x.n ≤ N → ∀ (i : Int), NodeAt (ns.map NodeV.c) i x →
    Fun Tryz.prog 22 [va, .int .i64 i] I [] (fun v _ _ => v = .string (txZ (shP x)))
  | 0, x, hx, _, _ => absurd hx (by have := x.n_pos; omega)
  | N + 1, x, hx, i, hi => by
    have ih : ∀ y, y.n ≤ N → ∀ (i least : Int), NodeAt (ns.map NodeV.c) i y → Fun Tryz.prog 50 [va, .int .i64 i, .int .i64 least] I [] (fun v _ _ => v = .string (txZ (partP y least))) :=
      fun y hy i least hi => nPart_any va ns hsa hok hn y i least hi (nNode_any va ns hsa hok hf hn N y hy i hi)
    have hln := nds_len ns
    have hin := hi.in_
    rw [List.length_map] at hin
    have hfew := hi.few
    rw [List.length_map] at hfew
    obtain ⟨k, rfl⟩ : ∃ k : Nat, i = k := ⟨i.toNat, by omega⟩
    obtain ⟨o, ho⟩ : ∃ o, ns[k]? = some o := ⟨ns[k]'(by omega), List.getElem?_eq_getElem (by omega)⟩
    have hom := List.mem_of_getElem? ho
    have hw1 : Ws I o.vn o.c.n := (hok o hom).1
    have hw2 : Ws I o.vd o.c.d := (hok o hom).2
    obtain ⟨e0, e1, e2, e3, e4, e5⟩ := bind_kind hi (c := o.c) (by rw [Int.toNat_natCast, List.getElem?_map, ho]; rfl)
    have hbe := bindE_pos x
    have hbz : bindZ o.c.kind ≤ 5 := by unfold bindZ; (repeat' split) <;> omega
    have hxs := sh_size x hi.ok
    intro w hw
    refine enter2 _ Tryz.func22 rfl Tryz.ntmps22 rfl ?_ hw;refine sR ?_;refine oV ?_;refine nS ?_;iterate 2 refine oV ?_
    refine o_elem trivial rfl Tryz.underlying24 Tryz.sizeOf37 rfl (hsa) rfl (by omega) ?_;refine o_loadAI trivial rfl Tryz.isAgg37 Tryz.sizeOf37 rfl rfl (nds_at hsa ho) ?_;refine o_alloc trivial rfl Tryz.zeroValue37 rfl (fun b5 => ?_);refine oS Tryz.sizeOf37 ?_;refine nU ?_;refine oF 0 Tryz.underlying37 Tryz.sizeOf3 ?_;refine oL Tryz.isAgg3 ?_;refine oN (tC (cB (sR ?_)));iterate 2 refine oV ?_
    refine nT ?_;refine cC rfl (fun h1 => ?_) (fun h1 => ?_)
    ·
     have f1 := h1;try simp only [bl] at f1
     have hT : txZ (shP x) = o.c.name := by
       rw [e1 f1]; show o.c.name ++ ByteArray.empty = _; rw [ByteArray.append_empty]
     refine sR ?_;refine oF 4 Tryz.underlying37 Tryz.sizeOf9 ?_;refine oL Tryz.isAgg9 ?_;refine oV ?_;refine oN (tC (cT (blk_r (tR ?_))));refine ret1 rfl rfl ?_;refine leaf0 (congrArg Value.string ?_); rw [hT]
    have f1 := h1;try simp only [bl] at f1
    refine sR ?_;iterate 2 refine oV ?_
    refine nT ?_;refine cC rfl (fun h2 => ?_) (fun h2 => ?_)
    ·
     have f2 := h2;try simp only [bl] at f2
     obtain ⟨q, rfl, hc⟩ := e2 f2
     have hT : txZ (shP (.num q)) = ratS q := by show ratS q ++ ByteArray.empty = _; rw [ByteArray.append_empty]
     have hq : Fun Tryz.prog 49 [.agg #[.bool o.c.neg, o.vn, o.vd]] I [] (fun v _ _ => v = .string (ratS q)) := by
       rw [hc] at hw1 hw2 ⊢
       have hfo := hf o hom
       rw [hc] at hfo
       exact rPrint8_any q o.vn o.vd hw1 hw2 (few_words hfo.1 hfo.2) hi.ok.1 hi.ok.2.1 hi.ok.2.2
     refine sR ?_;refine oF 5 Tryz.underlying37 Tryz.sizeOf35 ?_;refine oA Tryz.isAgg35 Tryz.sizeOf35 ?_;refine oQ Tryz.call49 rfl hq ?_;refine oV ?_;refine oN (tC (cT (blk_r (tR ?_))));refine ret1 rfl rfl ?_;refine leaf0 (congrArg Value.string ?_); rw [hT]
    have f2 := h2;try simp only [bl] at f2
    refine sR ?_;iterate 2 refine oV ?_
    refine nT ?_;refine cC rfl (fun h3 => ?_) (fun h3 => ?_)
    ·
     have f3 := h3;try simp only [bl] at f3
     obtain ⟨y, rfl, hy, hyn⟩ := e3 f3
     have hpy := part_size hy.ok 3
     have hT : txZ (shP (.neg y)) = ⟨#[45]⟩ ++ txZ (partP y 3) := rfl
     refine sR ?_;refine oV ?_;refine oF 1 Tryz.underlying37 Tryz.sizeOf3 ?_;refine oL Tryz.isAgg3 ?_;refine oQ Tryz.call50 rfl (ih y (by omega) _ 3 hy) ?_;refine o_cat trivial rfl rfl rfl (by show 1 + _ ≤ _; omega) ?_;refine oV ?_;refine oN (tC (cT (blk_r (tR ?_))));refine ret1 rfl rfl ?_;refine leaf0 (congrArg Value.string ?_); rw [hT]
    have f3 := h3;try simp only [bl] at f3
    refine sR ?_;iterate 2 refine oV ?_
    refine nT ?_;refine cC rfl (fun h4 => ?_) (fun h4 => ?_)
    ·
     have f4 := h4;try simp only [bl] at f4
     obtain ⟨y, rfl, hy, hyn⟩ := e4 f4
     have hpy := part_size hy.ok 5
     have hex := hi.ok.2
     have hes := exp_size hi.ok.2
     have hT : txZ (shP (.pow y o.c.e)) = txZ (partP y 5) ++ ⟨#[94]⟩ ++ txZ (expP o.c.e) := by
       show txZ (partP y 5 ++ tk 2 Go.Tw.caret :: expP o.c.e) = _
       rw [txZ_app, tx_one, ByteArray.append_assoc]
       rfl
     have h1s : ∀ s : ByteArray, txZ [tk 1 s] = s := fun s => by show s ++ ByteArray.empty = s; rw [ByteArray.append_empty]
     refine sR ?_;refine oV ?_;refine oF 1 Tryz.underlying37 Tryz.sizeOf3 ?_;refine oL Tryz.isAgg3 ?_;refine oQ Tryz.call50 rfl (ih y (by omega) _ 5 hy) ?_;refine o_cat trivial rfl rfl rfl (by show _ + 1 ≤ _; omega) ?_;refine oV ?_;refine nU ?_;refine oF 3 Tryz.underlying37 Tryz.sizeOf3 ?_;refine oL Tryz.isAgg3 ?_;refine oV ?_;refine nT ?_;refine cC rfl (fun h5 => ?_) (fun h5 => ?_)
     ·
      have f5 := h5;try simp only [bl] at f5
      refine cS ?_
      have hpk : txZ (expP o.c.e) = ⟨#[45]⟩ ++ decS o.c.e.natAbs := by unfold expP; rw [if_pos f5]; show minusS ++ txZ [tk 1 _] = _; rw [h1s]; rfl
      rw [hpk, ByteArray.size_append] at hes
      change 1 + _ ≤ 42 at hes
      refine cR ?_;refine oV ?_;refine o_cat trivial rfl rfl rfl (by rw [ByteArray.size_append]; show _ + 1 + 1 ≤ _; omega) ?_;refine oF 3 Tryz.underlying37 Tryz.sizeOf3 ?_;refine oL Tryz.isAgg3 ?_;refine oV ?_
      first | rw [IntWalk.i64_in _ (by omega)] | skip
      refine oQ Tryz.call51 rfl (rText_any _ (by omega)) ?_
      rw [show (0 - o.c.e).toNat = o.c.e.natAbs by omega]
      refine o_cat trivial rfl rfl rfl (by rw [ByteArray.size_append, ByteArray.size_append]; show _ + 1 + 1 + _ ≤ _; omega) ?_;refine oV ?_;refine oN (tC (cT (tR (blk_r (tR ?_)))));refine ret1 rfl rfl ?_;refine leaf0 (congrArg Value.string ?_); rw [hT, hpk]; simp only [ByteArray.append_assoc]
     have f5 := h5;try simp only [bl] at f5
     refine cK (tC (cS ?_))
     have hpk : txZ (expP o.c.e) = decS o.c.e.natAbs := by unfold expP; rw [if_neg (by omega)]; show txZ [tk 1 _] = _; rw [h1s]
     rw [hpk] at hes
     refine cR ?_;refine oV ?_;refine oF 3 Tryz.underlying37 Tryz.sizeOf3 ?_;refine oL Tryz.isAgg3 ?_;refine oQ Tryz.call51 rfl (rText_any _ (by omega)) ?_
     rw [show o.c.e.toNat = o.c.e.natAbs by omega]
     refine o_cat trivial rfl rfl rfl (by rw [ByteArray.size_append]; show _ + 1 + _ ≤ _; omega) ?_;refine oV ?_;refine oN (tC (cT (blk_r (tR ?_))));refine ret1 rfl rfl ?_;refine leaf0 (congrArg Value.string ?_); rw [hT, hpk]
    have f4 := h4;try simp only [bl] at f4
    obtain ⟨y, z, rfl, hy, hz, hyn, hzn, k2, k5⟩ := e5 (by omega) (by omega) (by omega) (by omega)
    have hb5 : bindZ o.c.kind = if 4 ≤ o.c.kind then 2 else 1 := e0
    have hpy := part_size hy.ok (bindZ o.c.kind)
    have hpz := part_size hz.ok (bindZ o.c.kind + 1)
    have hss : (sgS o.c.kind).size = 3 := by unfold sgS; rw [ByteArray.size_append, ByteArray.size_append]; unfold signS; split <;> (try rfl); split <;> (try rfl); split <;> rfl
    have hT : txZ (shP (.bin o.c.kind y z)) = txZ (partP y (bindZ o.c.kind)) ++ sgS o.c.kind ++ txZ (partP z (bindZ o.c.kind + 1)) := by
      rw [hb5]
      show txZ (partP y _ ++ gp :: tk 2 (signS o.c.kind) :: gp :: partP z _) = _
      rw [txZ_app, tx_one, tx_one, tx_one]
      unfold sgS
      simp only [ByteArray.append_assoc]
      rfl
    refine cK (blk_n (tC (sR ?_)));refine oB Tryz.underlying22 Tryz.sizeOf9 Tryz.zeroValue9 fun b53 => ?_;refine oV ?_;refine nS ?_;refine oF 0 Tryz.underlying37 Tryz.sizeOf3 ?_;refine oL Tryz.isAgg3 ?_;refine oP trivial rfl Tryz.call52 rfl (nBinds_any o.c.kind) ?_;refine oV ?_;refine oN (tC (cS ?_));refine c_quiet (by kernel_rfl) (by kernel_rfl) (fun _ h => h.drawn) ?_;refine oV ?_;refine oF 1 Tryz.underlying37 Tryz.sizeOf3 ?_;refine oL Tryz.isAgg3 ?_;refine oV ?_;refine oQ Tryz.call50 rfl (ih y (by omega) _ _ hy) ?_;refine oV ?_;refine oF 0 Tryz.underlying37 Tryz.sizeOf3 ?_;refine oL Tryz.isAgg3 ?_
    first | (refine o_sub trivial rfl rfl rfl ?_ ?_; (omega)) | refine oV ?_
    refine o_elemV trivial rfl Tryz.underlying22 Tryz.sizeOf9 rfl rfl (by omega) ?_;refine o_loadBox1 trivial rfl Tryz.isAgg9 rfl (by repeat constructor) ((by rw [show (0 + (o.c.kind - 2).toNat * 1) = (o.c.kind - 2).toNat by omega]; exact sgs_get ⟨k2, k5⟩)) ?_;refine o_cat trivial rfl rfl rfl (by omega) ?_;refine oV ?_;refine oF 2 Tryz.underlying37 Tryz.sizeOf3 ?_;refine oL Tryz.isAgg3 ?_;refine oV ?_
    first | (refine o_add trivial rfl rfl rfl ?_ ?_; (omega)) | refine oV ?_
    refine oQ Tryz.call50 rfl (ih z (by omega) _ _ hz) ?_;refine o_cat trivial rfl rfl rfl (by rw [ByteArray.size_append]; omega) ?_;refine oV ?_;refine nE ?_;refine ret1 rfl rfl ?_;refine leaf0 (congrArg Value.string ?_); rw [hT]
theorem joins_more {l : List ByteArray} {i : Nat} {s : ByteArray} (h : l[i]? = some s) : joinS (l.take (i + 1)) = (if i = 0 then ⟨#[]⟩ else joinS (l.take i) ++ ⟨#[44, 32]⟩) ++ s := by
  have key : ∀ (a : List ByteArray) (x s : ByteArray), joinS (x :: (a ++ [s])) = joinS (x :: a) ++ ⟨#[44, 32]⟩ ++ s := fun a x s => by
    apply ByteArray.ext
    apply Array.toList_inj.1
    show (x ++ txZ (restP (a ++ [s])).dropLast.dropLast).data.toList = ((x ++ txZ (restP a).dropLast.dropLast) ++ ⟨#[44, 32]⟩ ++ s).data.toList
    simp only [ByteArray.data_append, Array.toList_append, rest_tail]
    simp [Lib.joinTail]
  cases l with
  | nil => cases h
  | cons x l =>
    cases i with
    | zero =>
      have hxs : x = s := Option.some.inj h
      subst hxs
      show x ++ ByteArray.empty = ByteArray.empty ++ x
      rw [ByteArray.append_empty, ByteArray.empty_append]
    | succ i =>
      rw [if_neg (by omega)]
      have h2 : l[i]? = some s := h
      have e : (x :: l).take (i + 1 + 1) = x :: (l.take i ++ [s]) := by rw [List.take_succ_cons, List.take_add_one, h2]; rfl
      rw [e, key]
      rfl
theorem nNames_any (v : Value) (l : List ByteArray) {I : Hp} (h : Slc I 1 v (scs l)) (hok : NamesOk l) (hn : l.length ≤ 100) : Fun Tryz.prog 55 [v] I [] (fun v _ _ => v = .string (joinS l)) := by
  have hl := scs_len l
  intro w hw
  refine enter1 _ Tryz.func55 rfl Tryz.ntmps55 rfl ?_ hw;refine sR ?_;refine oV ?_;refine nS ?_;refine oV ?_;refine nU ?_;refine oV ?_;refine oN (tC (cB ?_));refine c_loop (ι := Nat) [0] (.cons rfl .nil) (fun x => l.length - x) (fun x E0 => (3, .string (joinS (l.take x))) :: (4, .int .i64 (x : Nat)) :: E0) (fun x => St w [] I []) (fun x => x ≤ l.length) (0) (sC rfl (sC rfl (sC rfl sN))) (fun _ h => h) (Nat.zero_le _) ?_;rintro i hi
  try dsimp only
  refine cS (sR ?_);iterate 2 refine oV ?_
  refine o_lenSlc trivial rfl Tryz.underlying22 rfl (h) ?_;refine oV ?_;refine nT ?_;refine cC rfl (fun h1 => ?_) (fun h1 => ?_)
  ·
   have f1 := h1;try simp only [bl] at f1
   obtain ⟨s, hs⟩ : ∃ s, l[i]? = some s := ⟨l[i]'(by omega), List.getElem?_eq_getElem (by omega)⟩
   have hmore := joins_more hs
   have hts := joins_size (l := l.take i) (fun b hb => hok b (List.mem_of_mem_take hb))
   rw [List.length_take] at hts
   have hss := (name_parts (hok s (List.mem_of_getElem? hs))).2.1
   refine cK (tC (cS (cB (cS (sR ?_)))));iterate 2 refine oV ?_
   refine nT ?_;refine cC rfl (fun h2 => ?_) (fun h2 => ?_)
   ·
    have f2 := h2;try simp only [bl] at f2
    rw [if_neg (by omega)] at hmore
    refine cR ?_;refine oV ?_;refine o_cat trivial rfl rfl rfl (by show _ + 2 ≤ _; omega) ?_;refine oV ?_;refine nR ?_;iterate 3 refine oV ?_
    refine o_elem trivial rfl Tryz.underlying22 Tryz.sizeOf9 rfl (h) rfl (by omega) ?_;refine o_load1I trivial rfl Tryz.isAgg9 rfl (scs_at h hs) ?_;refine o_cat trivial rfl rfl rfl (by first | (rw [ByteArray.size_append]; show _ + 2 + _ ≤ _; omega) | omega) ?_;refine oV ?_;refine oN (blk_n (tC (cR ?_)));refine oV ?_
    first | (refine o_add trivial rfl rfl rfl ?_ ?_; (omega)) | refine oV ?_
    refine oV ?_;refine oN ?_
    first | exact again (i + 1) (by rw [hmore]; exact (sC rfl (sC rfl (sC rfl sN)))) (fun _ h => h) (by show l.length - (i + 1) < l.length - i; omega) (by show i + 1 ≤ _; omega) | exact again (0 + 1) (by rw [hmore]; exact (sC rfl (sC rfl (sC rfl sN)))) (fun _ h => h) (by show l.length - (0 + 1) < l.length - 0; omega) (by show 0 + 1 ≤ _; omega)
   have f2 := h2;try simp only [bl] at f2
   obtain rfl : i = 0 := by omega
   rw [if_pos rfl] at hmore
   refine cK (tC (cR ?_));iterate 3 refine oV ?_
   refine o_elem trivial rfl Tryz.underlying22 Tryz.sizeOf9 rfl (h) rfl (by omega) ?_;refine o_load1I trivial rfl Tryz.isAgg9 rfl (scs_at h hs) ?_;refine o_cat trivial rfl rfl rfl (by first | (rw [ByteArray.size_append]; show _ + 2 + _ ≤ _; omega) | omega) ?_;refine oV ?_;refine oN (blk_n (tC (cR ?_)));refine oV ?_
   first | (refine o_add trivial rfl rfl rfl ?_ ?_; (omega)) | refine oV ?_
   refine oV ?_;refine oN ?_
   first | exact again (i + 1) (by rw [hmore]; exact (sC rfl (sC rfl (sC rfl sN)))) (fun _ h => h) (by show l.length - (i + 1) < l.length - i; omega) (by show i + 1 ≤ _; omega) | exact again (0 + 1) (by rw [hmore]; exact (sC rfl (sC rfl (sC rfl sN)))) (fun _ h => h) (by show l.length - (0 + 1) < l.length - 0; omega) (by show 0 + 1 ≤ _; omega)
  have f1 := h1;try simp only [bl] at f1
  refine c_exit (then_x (then_x (blk_eq rfl (tC (sR ?_)))));iterate 2 refine oV ?_
  refine nE ?_;refine ret1 rfl rfl ?_;refine leaf0 ?_; rw [List.take_of_length_le (by omega)]
theorem nPrint_any (vi vl vo va : Value) (p : ProgC) (ns : List NodeV) (s : ByteArray) {I : Hp} (hp : ProgV I vi vl vo va p ns) (hf : ∀ o ∈ ns, o.c.few 3000) (hn : ns.length ≤ 1000) (hs : PrintS p s)
    (hright : Fun Tryz.prog 21 [.agg #[vi, vl, vo, va]] I [] (fun v _ _ => v = .bool (tZ p).isSome)) :
    Fun Tryz.prog 24 [.agg #[vi, vl, vo, va]] I [] (fun v _ _ => v = .string s) := by
  have hsi := hp.si
  have hsl := hp.sl
  have hso := hp.so
  have hsa := hp.sa
  have hla := nds_len ns
  have hal : p.all.length = ns.length := by rw [← hp.eq, List.length_map]
  have hll : (p.lets.map LetC.cells).length = p.lets.length := List.length_map _
  intro w hw
  refine enter1 _ Tryz.func24 rfl Tryz.ntmps24 rfl ?_ hw;refine sR ?_;refine o_box trivial rfl rfl rfl (fun b1 => ?_);refine oV ?_;refine nS ?_;refine oA Tryz.isAgg26 Tryz.sizeOf26 ?_;refine oQ Tryz.call21 rfl hright ?_;refine oV ?_;refine nU ?_;iterate 2 refine oV ?_
  refine nT ?_;refine cC rfl (fun h1 => ?_) (fun h1 => ?_)
  ·
   have f1 := h1;try simp only [bl] at f1
   have hz : s = ⟨#[]⟩ := by
     rcases hs with ⟨l, hl, _⟩ | ⟨_, t⟩
     · rw [tZ_right hl] at f1; cases f1
     · exact t
   refine sR ?_;refine oV ?_;refine nF ?_;refine ret1 rfl rfl ?_;refine leaf0 ?_; rw [hz]
  have f1 := h1;try simp only [bl] at f1
  obtain ⟨l, hl, hxs⟩ : ∃ l, RightP p l ∧ s = textZ p l := by
    rcases hs with h | ⟨t, _⟩
    · exact h
    · rw [t] at f1; cases f1
  have hts := text_size hl
  have hfw := hl.few.2
  have hpl : p.lets.length = l.length := by rw [hl.lets, laid_lets]
  have hji := joins_size hl.ins.1
  have hjo := joins_size hl.outs.1
  have hi40 := hl.ins.2.2
  have ho40 := hl.outs.2.2
  have hl40 := hl.few.1
  have hlz : (txZ (letsP l)).size ≤ 81 * p.all.length + 5500 := by
    unfold textZ progP at hts
    rw [tx_app, tx_app] at hts
    omega
  refine kS ?_;refine oF 0 Tryz.underlying26 Tryz.sizeOf22 ?_;refine oL Tryz.isAgg22 ?_;refine oQ Tryz.call55 rfl (nNames_any vi p.ins hsi hl.ins.1 (by omega)) ?_;refine o_cat trivial rfl rfl rfl (by show 3 + _ ≤ _; omega) ?_;refine o_cat trivial rfl rfl rfl (by rw [ByteArray.size_append]; show 3 + _ + 2 ≤ _; omega) ?_;refine oV ?_;refine oN (tC (cS (cS ?_)))
  obtain ⟨hd, hhd⟩ : ∃ hd : ByteArray, hd = ⟨#[105, 110, 32]⟩ ++ joinS p.ins ++ ⟨#[59, 10]⟩ := ⟨_, rfl⟩
  have hds : hd.size ≤ 2000 := by rw [hhd, ByteArray.size_append, ByteArray.size_append]; show 3 + _ + 2 ≤ _; omega
  have hd0 : hd = hd ++ txZ (letsP (l.take 0)) := by rw [List.take_zero]; show hd = hd ++ ByteArray.empty; rw [ByteArray.append_empty]
  rw [← hhd, hd0]
  refine cR ?_;refine oV ?_;refine oN (tC (cB ?_));refine c_loop (ι := Nat) [1] (.cons rfl .nil) (fun x => p.lets.length - x) (fun x E0 => (4, .string (hd ++ txZ (letsP (l.take x)))) :: (5, .int .i64 (x : Nat)) :: E0) (fun x => St w [] I [.box b1 (.cells #[vi, vl, vo, va] 26 (0, 0))]) (fun x => x ≤ p.lets.length) (0) (sC rfl (sC rfl (sC rfl sN))) (fun _ h => h) (Nat.zero_le _) ?_;rintro i hi
  try dsimp only
  refine cS (sR ?_);refine oV ?_;refine oF 1 Tryz.underlying26 Tryz.sizeOf23 ?_;refine oL Tryz.isAgg23 ?_;refine o_lenSlc trivial rfl Tryz.underlying23 rfl (hsl) ?_;refine oV ?_;refine nT ?_;refine cC rfl (fun h2 => ?_) (fun h2 => ?_)
  ·
   have f2 := h2;try simp only [bl] at f2
   obtain ⟨c, hc⟩ : ∃ c, p.lets[i]? = some c := ⟨p.lets[i]'(by omega), List.getElem?_eq_getElem (by omega)⟩
   obtain ⟨x, hx1, hx2, hx3⟩ := hl.root hc
   rw [← hp.eq] at hx2
   have hxs2 := sh_size x hx2.ok
   have hxn := hx2.few
   rw [List.length_map] at hxn
   have hmore := lets_more hx1 hd
   have htk := lets_take (l := l) i
   have hnm : c.name.size ≤ 40 := (name_parts (hl.ok _ (List.mem_of_getElem? hx1)).1).2.1
   refine cK (tC (cS (cB ?_)));refine c_quiet (by kernel_rfl) (by kernel_rfl) (fun _ h => h.drawn) ?_;refine oV ?_;refine o_cat trivial rfl rfl rfl (by rw [ByteArray.size_append]; show _ + _ + 4 ≤ _; omega) ?_;refine oF 1 Tryz.underlying26 Tryz.sizeOf23 ?_;refine oL Tryz.isAgg23 ?_;refine oV ?_;refine o_elem trivial rfl Tryz.underlying23 Tryz.sizeOf39 rfl (hsl) rfl (by omega) ?_;refine oF 0 Tryz.underlying39 Tryz.sizeOf9 ?_;refine o_load1I trivial rfl Tryz.isAgg9 rfl (lts_at hsl hc 0 _ rfl) ?_;refine o_cat trivial rfl rfl rfl (by rw [ByteArray.size_append, ByteArray.size_append]; show _ + _ + 4 + _ ≤ _; omega) ?_;refine o_cat trivial rfl rfl rfl (by rw [ByteArray.size_append, ByteArray.size_append, ByteArray.size_append]; show _ + _ + 4 + _ + 3 ≤ _; omega) ?_;refine oF 3 Tryz.underlying26 Tryz.sizeOf24 ?_;refine oL Tryz.isAgg24 ?_;refine oF 1 Tryz.underlying26 Tryz.sizeOf23 ?_;refine oL Tryz.isAgg23 ?_;refine oV ?_;refine o_elem trivial rfl Tryz.underlying23 Tryz.sizeOf39 rfl (hsl) rfl (by omega) ?_;refine oF 1 Tryz.underlying39 Tryz.sizeOf3 ?_;refine o_load1I trivial rfl Tryz.isAgg3 rfl (lts_at hsl hc 1 _ rfl) ?_;refine oQ Tryz.call22 rfl (nNode_any va ns hsa hp.ok hf hn x.n x (Nat.le_refl _) c.root hx2) ?_;refine o_cat trivial rfl rfl rfl (by rw [ByteArray.size_append, ByteArray.size_append, ByteArray.size_append, ByteArray.size_append]; show _ + _ + 4 + _ + 3 + _ ≤ _; omega) ?_
   skip
   refine o_cat trivial rfl rfl rfl (by rw [ByteArray.size_append, ByteArray.size_append, ByteArray.size_append, ByteArray.size_append, ByteArray.size_append]; show _ + _ + 4 + _ + 3 + _ + 2 ≤ _; omega) ?_;refine oV ?_;refine oN (blk_n (tC (cR ?_)));refine oV ?_
   first | (refine o_add trivial rfl rfl rfl ?_ ?_; (omega)) | refine oV ?_
   refine oV ?_;refine oN ?_;exact again (i + 1) (by rw [hmore, ← ByteArray.append_assoc, ← ByteArray.append_assoc, ← ByteArray.append_assoc, ← ByteArray.append_assoc]; exact (sC rfl (sC rfl (sC rfl sN)))) (fun _ h => h.sort (by repeat constructor)) (by show p.lets.length - (i + 1) < p.lets.length - i; omega) (by show i + 1 ≤ _; omega)
  have f2 := h2;try simp only [bl] at f2
  have htk2 : l.take i = l := List.take_of_length_le (by omega)
  rw [htk2]
  refine c_exit (then_x (then_x (blk_eq rfl (tC (sR ?_)))));refine oV ?_;refine o_cat trivial rfl rfl rfl (by rw [ByteArray.size_append]; show _ + _ + 4 ≤ _; omega) ?_;refine oF 2 Tryz.underlying26 Tryz.sizeOf22 ?_;refine oL Tryz.isAgg22 ?_;refine oQ Tryz.call55 rfl (nNames_any vo p.outs hso hl.outs.1 (by omega)) ?_;refine o_cat trivial rfl rfl rfl (by rw [ByteArray.size_append, ByteArray.size_append]; show _ + _ + 4 + _ ≤ _; omega) ?_;refine o_cat trivial rfl rfl rfl (by rw [ByteArray.size_append, ByteArray.size_append, ByteArray.size_append]; show _ + _ + 4 + _ + 2 ≤ _; omega) ?_;refine oV ?_;refine nE ?_;refine ret1 rfl rfl ?_;refine leaf0 (congrArg Value.string ?_)
  rw [hxs, hhd]
  unfold textZ progP
  rw [txZ_app, txZ_app]
  have e1 : ∀ (key : ByteArray) (l : List ByteArray), 1 ≤ l.length → txZ (namesP key l) = key ++ (⟨#[32]⟩ ++ (joinS l ++ ⟨#[59, 10]⟩)) := fun key l h => by
    cases l with
    | nil => simp at h
    | cons s l => exact names_text
  rw [e1 _ _ hl.ins.2.1, e1 _ _ hl.outs.2.1]
  have e2 : (⟨#[105, 110, 32]⟩ : ByteArray) = inS ++ ⟨#[32]⟩ := rfl
  have e3 : (⟨#[111, 117, 116, 32]⟩ : ByteArray) = outS ++ ⟨#[32]⟩ := rfl
  rw [e2, e3]
  simp only [ByteArray.append_assoc]
end Go.Proofs.YtfcmhcaggdakbaaGreatDoor
namespace Go.Tw
open Go Go.RowKit
section
variable {P : Program} {Q : Exit → Act → World → Prop} {n : Nat} {D : List Deferred} {E : Env} {S S' : World → Prop} {ops : Array Oper} {rest : List Oper} {d : Nat} {op : Op} {ty : TypeId} {pos : String} {aft : Array Edge} {g : Option (Nat × Bool)} {v : Value} {w0 : World} {X : List Nat} {I : Hp} {B : List Item}
theorem map_set {w : World} {b : Nat} {o o' : Obj} (hb : w.heap[b]? = some o) : But (some b) w { w with heap := w.heap.setIfInBounds b o' } ∧ (w.heap.setIfInBounds b o')[b]? = some o' := by
  refine ⟨⟨rfl, rfl, rfl, by simp, fun k hk hne => ?_⟩, ?_⟩
  · have : b ≠ k := fun e => hne (by rw [e])
    simp [Array.getElem?_setIfInBounds, this]
  · have hlt := (Array.getElem?_eq_some_iff.1 hb).1
    simp [hlt]
end
end Go.Tw
namespace Go.Tw
open Go Go.RowKit
section
variable {P : Program} {Q : Exit → Act → World → Prop} {n : Nat} {D : List Deferred} {E : Env} {S S' : World → Prop} {ops : Array Oper} {rest : List Oper} {d : Nat} {op : Op} {ty : TypeId} {pos : String} {aft : Array Edge} {g : Option (Nat × Bool)} {v : Value} {w0 : World} {X : List Nat} {I : Hp} {B : List Item}
end
end Go.Tw
namespace Go.Proofs.YtfcmhcaggdakbaaGreatDoor
open Go Go.Tw
theorem take_more {α : Type} {l m : List α} {i : Nat} {x y : α} (h : l.take i = m.take i) (hx : l[i]? = some x) (hy : m[i]? = some y) (e : x = y) : l.take (i + 1) = m.take (i + 1) := by
  rw [List.take_add_one, List.take_add_one, h, hx, hy, e]
def pc (m : Bool) : Nat := if m then 1 else 0
def inn : Ex → Nat
  | .ref _ => 0
  | .num _ => 0
  | .neg x => inn x + pc (decide (bindE x < 3))
  | .pow x _ => inn x + pc (decide (bindE x < 5))
  | .bin k x y => inn x + pc (decide (bindE x < if 4 ≤ k then 2 else 1)) + (inn y + pc (decide (bindE y < (if 4 ≤ k then 2 else 1) + 1)))
def need (x : Ex) (m : Int) : Nat := inn x + pc (decide (bindE x < m))
def Lv.at_ : Lv → Int
  | .atom => 5
  | .powL => 4
  | .power => 4
  | .factor => 3
  | .prodL => 2
  | .product => 2
  | .sumL => 1
  | .sum => 1
def _root_.Go.Tw.NOut.rest : NOut → List Tok
  | .bad r => r
  | .ok _ r => r
theorem namesZ_suf : ∀ (r : List Tok), (namesZ r).rest <:+ r
  | [] => List.suffix_refl _
  | [x] => by
    unfold namesZ
    split
    · exact List.nil_suffix
    · exact List.suffix_refl _
  | x :: y :: r => by
    have ih := namesZ_suf r
    unfold namesZ
    split
    · split
      · cases h : namesZ r with
        | bad r1 => rw [h] at ih; exact List.IsSuffix.trans ih ⟨[_, _], rfl⟩
        | ok l r1 => rw [h] at ih; exact List.IsSuffix.trans ih ⟨[_, _], rfl⟩
      · split
        · exact ⟨[_, _], rfl⟩
        · exact List.suffix_cons _ _
    · exact List.suffix_refl _
def _root_.Go.Tw.LO.rest : LO → List Tok
  | .bad r => r
  | .ok _ _ r => r
theorem _root_.Go.Tw.Lt1.suf {all : List NodeC} {r : List Tok} {o : LO} (h : Lt1 all r o) : o.rest <:+ r := by
  cases h with
  | noname _ => exact List.suffix_refl _
  | noeq _ _ => exact List.suffix_cons _ _
  | sumbad _ _ h => exact List.IsSuffix.trans h.suf ⟨[_, _], rfl⟩
  | nosemi _ _ h _ => exact List.IsSuffix.trans h.suf ⟨[_, _], rfl⟩
  | ok _ _ h _ => exact List.IsSuffix.trans ((List.suffix_cons _ _).trans h.suf) ⟨[_, _], rfl⟩
def _root_.Go.Tw.LSO.rest : LSO → List Tok
  | .bad r => r
  | .ok _ _ r => r
theorem _root_.Go.Tw.Lts.suf {ls : List LetC} {all : List NodeC} {r : List Tok} {o : LSO} (h : Lts ls all r o) : o.rest <:+ r := by
  induction h with
  | fin _ => exact List.suffix_refl _
  | bad _ h => exact List.IsSuffix.trans h.suf (List.suffix_cons _ _)
  | more _ h _ ih => exact ih.trans (List.IsSuffix.trans h.suf (List.suffix_cons _ _))
theorem _root_.Go.Tw.Prg.suf {r r1 : List Tok} (h : Prg r (.bad r1)) : r1 <:+ r := by
  have nm : ∀ {r r1 : List Tok} {l : List ByteArray}, namesZ r = .ok l r1 → r1 <:+ r := fun {r r1 l} h => by have := namesZ_suf r; rw [h] at this; exact this
  have nb : ∀ {r r1 : List Tok}, namesZ r = .bad r1 → r1 <:+ r := fun {r r1} h => by have := namesZ_suf r; rw [h] at this; exact this
  cases h with
  | noin _ => exact List.suffix_refl _
  | insbad _ h => exact (nb h).trans (List.suffix_cons _ _)
  | letsbad _ h1 h2 => exact h2.suf.trans ((nm h1).trans (List.suffix_cons _ _))
  | noout _ h1 h2 _ => exact h2.suf.trans ((nm h1).trans (List.suffix_cons _ _))
  | outsbad _ h1 h2 _ h3 => exact (nb h3).trans ((List.suffix_cons _ _).trans (h2.suf.trans ((nm h1).trans (List.suffix_cons _ _))))
  | tail _ h1 h2 _ h3 => exact (nm h3).trans ((List.suffix_cons _ _).trans (h2.suf.trans ((nm h1).trans (List.suffix_cons _ _))))
end Go.Proofs.YtfcmhcaggdakbaaGreatDoor
