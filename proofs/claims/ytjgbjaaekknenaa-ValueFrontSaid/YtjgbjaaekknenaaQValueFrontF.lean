/-
  ValueFront: whatever the input, the law answers true, and its arguments read as they did. Conditions: the row's own, no more.
-/
import Derived.Test.YtjgbjaaekknenaaQValueFrontE
/-
  The document's small points; places moved.
-/
namespace Go.Proofs.Ytjgbjaaekknenaa
open Go Go.Tw
set_option linter.unusedVariables false
set_option linter.unusedSimpArgs false
set_option linter.unnecessarySimpa false
set_option maxHeartbeats 1000000
def ptQ (ss : List SmallC) (i : Nat) : Rat := match ss[i]? with
  | some s => mkRat s.n ((s.d % 4).toNat + 1)
  | none => mkRat 0 1
def pts (n : Nat) (ss : List SmallC) : List Rat := (List.range n).map (ptQ ss)
theorem pts_succ (n : Nat) (ss : List SmallC) : pts (n + 1) ss = pts n ss ++ [ptQ ss n] := by unfold pts; rw [List.range_succ, List.map_append]; rfl
theorem pts_len (n : Nat) (ss : List SmallC) : (pts n ss).length = n := by simp [pts]
theorem ptQ_bd {ss : List SmallC} (h : ∀ s ∈ ss, s.ok) (i : Nat) : BdQ 1 (ptQ ss i) := by
  unfold ptQ
  split
  · rename_i s hs
    have := h s (List.mem_of_getElem? hs)
    have h1 := this.n
    have h2 := this.d
    exact bd_small (by omega) (by omega)
  · exact bd_small (by decide) (by decide)
theorem pts_bd {ss : List SmallC} (h : ∀ s ∈ ss, s.ok) (n : Nat) : ∀ q ∈ pts n ss, BdQ 1 q := fun q hq => by
  obtain ⟨i, _, rfl⟩ := List.mem_map.1 hq
  exact ptQ_bd h i
/-- Numbers that came out are handed in. -/
theorem RsV.pt {I : Hp} {v : Value} {l : List Rat} (h : RsV I v l) : ∃ xs : List NV, PtV I v xs ∧ xs.map NV.q = l ∧ ∀ x ∈ xs, ∃ q vn vd, q ∈ l ∧ x = NV.of q vn vd := by
  obtain ⟨rs, h1, h2, h3⟩ := h.out
  refine ⟨rs.map fun r => NV.of r.q r.vn r.vd, ⟨?_, fun x hx => ?_⟩, ?_, fun x hx => ?_⟩
  · rw [List.map_map]; exact h1
  · obtain ⟨r, hr, rfl⟩ := List.mem_map.1 hx
    exact h2 r hr
  · rw [List.map_map, ← h3]
    exact List.map_congr_left fun r _ => NV.of_q _ _ _
  · obtain ⟨r, hr, rfl⟩ := List.mem_map.1 hx
    exact ⟨r.q, r.vn, r.vd, by rw [← h3]; exact List.mem_map_of_mem hr, rfl⟩
theorem three_more (rs : List RV) (q : Rat) (u1 u2 : Value) : (rcs rs).flatten ++ ([.bool (decide (q.num < 0)), u1, u2] ++ []) = (rcs (rs ++ [⟨q, u1, u2⟩])).flatten := by
  rw [List.append_nil]; exact rcs_more rs ⟨q, u1, u2⟩
theorem point_any (n : Nat) (vl : Value) (ss : List SmallC) {I : Hp} (hn : n ≤ 1000) (hl : SmV I vl ss) : Fun Try.prog 6 [.int .i64 (n : Nat), vl] I [] (fun v I' _ => RsV I' v (pts n ss)) := by
  have hls := hl.s
  have htk : (ss.map SmallC.cells).length = ss.length := List.length_map _
  have hm1 := hls.most
  unfold maxLen at hm1
  intro w hw
  refine enter2 _ Try.func6 rfl Try.ntmps6 rfl ?_ hw
  refine c_seq (c_region ?_)
  refine o_pv trivial rfl rfl ?_
  refine o_nil (then_c (c_seq (c_region ?_)))
  refine o_pv trivial rfl rfl ?_
  refine o_nil (then_c (c_seq (c_seq (c_region ?_))))
  refine o_pv trivial rfl rfl ?_
  refine o_nil (then_c (c_block ?_))
  refine c_loop (ι := Nat × List RV × Value × Hp) [0, 1] (.cons rfl (.cons rfl .nil)) (fun x => n - x.1) (fun x E0 => (5, x.2.2.1) :: (6, .int .i64 (x.1 : Nat)) :: E0) (fun x => St w [] x.2.2.2 [.row x.2.2.1 40 3 x.2.1.length (rcs x.2.1).flatten]) (fun x => x.1 ≤ n ∧ x.2.1.length = x.1 ∧ (∀ r ∈ x.2.1, r.ok x.2.2.2) ∧ x.2.1.map RV.q = pts x.1 ss ∧ Ext w.heap.size I x.2.2.2) ((0, [], .slice none 0 0, I)) (sub_cons rfl (sub_cons rfl (sub_cons rfl (sub_cons rfl sub_nil)))) (fun _ h => h.nilRow 40 3) (⟨Nat.zero_le _, rfl, fun r hr => (by cases hr), rfl, Ext.refl _ _⟩) ?_
  rintro ⟨i, rs, u, I1⟩ ⟨hi, hrl, hrs, hq1, hx1⟩
  try dsimp only
  simp only at hi hrl hrs hq1 hx1
  refine c_seq (c_seq (c_region ?_))
  iterate 3 refine o_pv trivial rfl rfl ?_
  refine o_nil (then_c ?_)
  refine c_cond rfl (fun h1 => ?_) (fun h1 => ?_)
  ·
   have f1 := h1
   try simp only [bl] at f1
   refine c_skip (then_c (c_seq (c_block (c_seq (c_region ?_)))))
   iterate 2 refine o_pv trivial rfl rfl ?_
   refine o_lenSlc trivial rfl Try.underlying24 rfl (hls.le hx1.le) ?_
   refine o_pv trivial rfl rfl ?_
   refine o_nil (then_c ?_)
   refine c_cond rfl (fun h2 => ?_) (fun h2 => ?_)
   ·
    have f2 := h2
    try simp only [bl] at f2
    obtain ⟨s, hs⟩ : ∃ s, ss[i]? = some s := ⟨ss[i]'(by omega), List.getElem?_eq_getElem (by omega)⟩
    have hso := hl.ok s (List.mem_of_getElem? hs)
    obtain ⟨hs1, hs2⟩ := hso
    have e5 : s.d % 4 = ((s.d % 4).toNat : Int) := by omega
    have hq : ptQ ss i = mkRat s.n ((s.d % 4).toNat + 1) := by unfold ptQ; rw [hs]
    refine h_beginB (m := 16) [] (by repeat constructor) (by kernel_rfl) rfl ?_
    refine' h_take (i := 0) #[true, false, false, false, false, false, false, false, false, false, false, false, false, false, false, false] rfl rfl rfl (by kernel_rfl) (by kernel_rfl) (by kernel_rfl) rfl (qp_blk (qp_then (qp_then (qp_blk (qp_then qp_bp))))) (fun _ h => (h.sort (by repeat constructor)).fewer (Hp.Le.refl _)) ?hh0 ?kk0
    case hh0 =>
     refine o_pv trivial rfl rfl ?_
     refine o_nil ?_
     exact ⟨fun _ _ ha _ => ha⟩
    refine' h_take (i := 1) #[true, true, false, false, false, false, false, false, false, false, false, false, false, false, false, false] rfl rfl rfl (by kernel_rfl) (by kernel_rfl) (by kernel_rfl) rfl (qp_blk (qp_then (qp_then (qp_blk (qp_then qp_bp))))) (fun _ h => (h.sort (by repeat constructor)).fewer (Hp.Le.refl _)) ?hh1 ?kk1
    case hh1 =>
     refine o_pv trivial rfl rfl ?_
     refine o_nil ?_
     exact ⟨fun _ _ ha _ => ha⟩
    refine' h_take (i := 2) #[true, true, true, false, false, false, false, false, false, false, false, false, false, false, false, false] rfl rfl rfl (by kernel_rfl) (by kernel_rfl) (by kernel_rfl) rfl (qp_blk (qp_then (qp_then (qp_blk (qp_then qp_bp))))) (fun _ h => (h.sort (by repeat constructor)).fewer (Hp.Le.refl _)) ?hh2 ?kk2
    case hh2 =>
     refine o_pv trivial rfl rfl ?_
     refine o_nil ?_
     exact ⟨fun _ _ ha _ => ha⟩
    refine' h_take (i := 3) #[true, true, true, true, false, false, false, false, false, false, false, false, false, false, false, false] rfl rfl rfl (by kernel_rfl) (by kernel_rfl) (by kernel_rfl) rfl (qp_blk (qp_then (qp_then (qp_blk (qp_then qp_bp))))) (fun _ h => (h.sort (by repeat constructor)).fewer (Hp.Le.refl _)) ?hh3 ?kk3
    case hh3 =>
     refine o_elem trivial rfl Try.underlying24 Try.sizeOf51 rfl (hls.le hx1.le) rfl (by omega) ?_
     refine o_nil ?_
     exact ⟨fun _ _ ha _ => ha⟩
    refine' h_take (i := 4) #[true, true, true, true, true, false, false, false, false, false, false, false, false, false, false, false] rfl rfl rfl (by kernel_rfl) (by kernel_rfl) (by kernel_rfl) rfl (qp_blk (qp_then (qp_then (qp_blk (qp_then qp_bp))))) (fun _ h => (h.sort (by repeat constructor)).fewer (Hp.Le.refl _)) ?hh4 ?kk4
    case hh4 =>
     refine o_fieldAddr (T := 45) (off := 0) trivial rfl Try.underlying51 rfl rfl rfl Try.sizeOf45 rfl rfl ?_
     refine o_nil ?_
     exact ⟨fun _ _ ha _ => ha⟩
    refine' h_take (i := 5) #[true, true, true, true, true, true, false, false, false, false, false, false, false, false, false, false] rfl rfl rfl (by kernel_rfl) (by kernel_rfl) (by kernel_rfl) rfl (qp_blk (qp_then (qp_then (qp_blk (qp_then qp_bp))))) (fun _ h => (h.sort (by repeat constructor)).fewer (Hp.Le.refl _)) ?hh5 ?kk5
    case hh5 =>
     refine o_load1I trivial rfl Try.isAgg45 rfl ((hl.le hx1.le).at_ hs 0 _ rfl) ?_
     refine o_nil ?_
     exact ⟨fun _ _ ha _ => ha⟩
    refine' h_take (i := 6) #[true, true, true, true, true, true, true, false, false, false, false, false, false, false, false, false] rfl rfl rfl (by kernel_rfl) (by kernel_rfl) (by kernel_rfl) rfl (qp_blk (qp_then (qp_then (qp_blk (qp_then qp_bp))))) (fun _ h => (h.sort (by repeat constructor)).fewer (Hp.Le.refl _)) ?hh6 ?kk6
    case hh6 =>
     refine o_pv trivial rfl rfl ?_
     refine o_nil ?_
     exact ⟨fun _ _ ha _ => ha⟩
    refine' h_take (i := 7) #[true, true, true, true, true, true, true, true, false, false, false, false, false, false, false, false] rfl rfl rfl (by kernel_rfl) (by kernel_rfl) (by kernel_rfl) rfl (qp_blk (qp_then (qp_then (qp_blk (qp_then qp_bp))))) (fun _ h => (h.sort (by repeat constructor)).fewer (Hp.Le.refl _)) ?hh7 ?kk7
    case hh7 =>
     refine o_pv trivial rfl rfl ?_
     refine o_nil ?_
     exact ⟨fun _ _ ha _ => ha⟩
    refine' h_take (i := 8) #[true, true, true, true, true, true, true, true, true, false, false, false, false, false, false, false] rfl rfl rfl (by kernel_rfl) (by kernel_rfl) (by kernel_rfl) rfl (qp_blk (qp_then (qp_then (qp_blk (qp_then qp_bp))))) (fun _ h => (h.sort (by repeat constructor)).fewer (Hp.Le.refl _)) ?hh8 ?kk8
    case hh8 =>
     refine o_elem trivial rfl Try.underlying24 Try.sizeOf51 rfl (hls.le hx1.le) rfl (by omega) ?_
     refine o_nil ?_
     exact ⟨fun _ _ ha _ => ha⟩
    refine' h_take (i := 9) #[true, true, true, true, true, true, true, true, true, true, false, false, false, false, false, false] rfl rfl rfl (by kernel_rfl) (by kernel_rfl) (by kernel_rfl) rfl (qp_blk (qp_then (qp_then (qp_blk (qp_then qp_bp))))) (fun _ h => (h.sort (by repeat constructor)).fewer (Hp.Le.refl _)) ?hh9 ?kk9
    case hh9 =>
     refine o_fieldAddr (T := 5) (off := 1) trivial rfl Try.underlying51 rfl rfl rfl Try.sizeOf5 rfl rfl ?_
     refine o_nil ?_
     exact ⟨fun _ _ ha _ => ha⟩
    refine' h_take (i := 10) #[true, true, true, true, true, true, true, true, true, true, true, false, false, false, false, false] rfl rfl rfl (by kernel_rfl) (by kernel_rfl) (by kernel_rfl) rfl (qp_blk (qp_then (qp_then (qp_blk (qp_then qp_bp))))) (fun _ h => (h.sort (by repeat constructor)).fewer (Hp.Le.refl _)) ?hh10 ?kk10
    case hh10 =>
     refine o_load1I trivial rfl Try.isAgg5 rfl ((hl.le hx1.le).at_ hs 1 _ rfl) ?_
     refine o_nil ?_
     exact ⟨fun _ _ ha _ => ha⟩
    refine' h_take (i := 11) #[true, true, true, true, true, true, true, true, true, true, true, true, false, false, false, false] rfl rfl rfl (by kernel_rfl) (by kernel_rfl) (by kernel_rfl) rfl (qp_blk (qp_then (qp_then (qp_blk (qp_then qp_bp))))) (fun _ h => (h.sort (by repeat constructor)).fewer (Hp.Le.refl _)) ?hh11 ?kk11
    case hh11 =>
     refine o_rem trivial rfl rfl rfl (by omega) ?_
     refine o_nil ?_
     exact ⟨fun _ _ ha _ => ha⟩
    refine h_go [12] (by kernel_rfl) rfl (TWHs.cons ?_ TWHs.nil)
    refine h_op #[true, true, true, true, true, true, true, true, true, true, true, true, true, false, false, false] rfl rfl ?_
    rw [e5]
    refine o_callI trivial rfl Try.call10 rfl (rSmall8_any s.n (s.d % 4).toNat hs1 (by omega)) ?_
    rintro _ I2 hx2 ⟨u1, u2, rfl, k1, k2⟩
    refine o_nil ?_
    refine h_next (fun _ h => (h.sort (by repeat constructor)).fewer (hx2.le)) ?_
    refine h_go [13] (by kernel_rfl) rfl (TWHs.cons ?_ TWHs.nil)
    refine h_op #[true, true, true, true, true, true, true, true, true, true, true, true, true, true, false, false] rfl rfl ?_
    refine o_buildSl trivial rfl Try.underlying31 Try.sizeOf40 Try.zeroValue40 (by decide) (by decide) rfl (by repeat first | exact rfl | constructor) rfl (fun b29 => ?_)
    refine o_nil ?_
    refine h_next (fun _ h => (h.sort (by repeat constructor)).fewer (hx2.le)) ?_
    refine h_go [14] (by kernel_rfl) rfl (TWHs.cons ?_ TWHs.nil)
    refine h_op #[true, true, true, true, true, true, true, true, true, true, true, true, true, true, true, false] rfl rfl ?_
    refine o_appendBox trivial rfl Try.underlying31 (elem40) (by decide) rfl rfl (fun v' => (by repeat constructor)) (by repeat constructor) rfl (by exact three_plain k1 k2) (by first | omega | (unfold maxLen; omega)) (by omega) (fun v30 => ?_)
    refine o_nil ?_
    refine h_next (fun _ h => (h.sort (by repeat constructor)).fewer (hx2.le)) ?_
    refine' h_take (i := 15) #[true, true, true, true, true, true, true, true, true, true, true, true, true, true, true, true] rfl rfl rfl (by kernel_rfl) (by kernel_rfl) (by kernel_rfl) rfl (qp_blk (qp_then (qp_then (qp_blk (qp_then qp_bp))))) (fun _ h => (h.sort (by repeat constructor)).fewer (hx2.le)) ?hh12 ?kk12
    case hh12 =>
     refine o_pv trivial rfl rfl ?_
     refine o_nil ?_
     exact ⟨fun _ _ ha _ => ha⟩
    refine h_end (by kernel_rfl) ?_
    refine blk_n (then_c (c_region ?_))
    refine o_pv trivial rfl rfl ?_
    first | (refine o_add trivial rfl rfl rfl ?_ ?_; (omega)) | refine o_pv trivial rfl rfl ?_
    refine o_pv trivial rfl rfl ?_
    refine o_nil ?_
    first
    | exact again (i + 1, rs ++ [⟨mkRat s.n ((s.d % 4).toNat + 1), u1, u2⟩], v30, I2) (sub_cons rfl (sub_cons rfl (sub_cons rfl (sub_cons rfl sub_nil)))) (fun _ h => by rw [← three_more, List.length_append]; exact h.sort (by repeat constructor)) (by show n - (i + 1) < n - i; omega) ⟨by show i + 1 ≤ _; omega, by show (rs ++ [_]).length = _; rw [List.length_append, hrl]; rfl, fun r hr => by
        rcases List.mem_append.1 hr with hr | hr
        · exact (hrs r hr).le hx2.le
        · rw [List.mem_singleton.1 hr]; exact ⟨k1, k2⟩, by show (rs ++ [_]).map RV.q = pts (i + 1) ss; rw [List.map_append, hq1, pts_succ, hq]; rfl, hx1.trans hx2 (Nat.le_refl _)⟩
    | exact again (i + 1, rs ++ [⟨mkRat 0 1, u1, u2⟩], v34, I2) (sub_cons rfl (sub_cons rfl (sub_cons rfl (sub_cons rfl sub_nil)))) (fun _ h => by rw [← three_more, List.length_append]; exact h.sort (by repeat constructor)) (by show n - (i + 1) < n - i; omega) ⟨by show i + 1 ≤ _; omega, by show (rs ++ [_]).length = _; rw [List.length_append, hrl]; rfl, fun r hr => by
        rcases List.mem_append.1 hr with hr | hr
        · exact (hrs r hr).le hx2.le
        · rw [List.mem_singleton.1 hr]; exact ⟨k1, k2⟩, by show (rs ++ [_]).map RV.q = pts (i + 1) ss; rw [List.map_append, hq1, pts_succ, hq]; rfl, hx1.trans hx2 (Nat.le_refl _)⟩
   ·
    have f2 := h2
    try simp only [bl] at f2
    have hq : ptQ ss i = mkRat 0 1 := by unfold ptQ; rw [List.getElem?_eq_none (by omega)]
    refine c_region ?_
    refine o_pv trivial rfl rfl ?_
    refine o_callI trivial rfl Try.call9 rfl (rOf8_any 0 (by decide)) ?_
    rintro _ I2 hx2 ⟨u1, u2, rfl, k1, k2⟩
    refine o_buildSl trivial rfl Try.underlying31 Try.sizeOf40 Try.zeroValue40 (by decide) (by decide) rfl (by repeat first | exact rfl | constructor) rfl (fun b33 => ?_)
    refine o_appendBox trivial rfl Try.underlying31 (elem40) (by decide) rfl rfl (fun v' => (by repeat constructor)) (by repeat constructor) rfl (by exact three_plain k1 k2) (by first | omega | (unfold maxLen; omega)) (by omega) (fun v34 => ?_)
    refine o_pv trivial rfl rfl ?_
    refine o_nil (blk_n (then_c (c_region ?_)))
    refine o_pv trivial rfl rfl ?_
    first | (refine o_add trivial rfl rfl rfl ?_ ?_; (omega)) | refine o_pv trivial rfl rfl ?_
    refine o_pv trivial rfl rfl ?_
    refine o_nil ?_
    first
    | exact again (i + 1, rs ++ [⟨mkRat s.n ((s.d % 4).toNat + 1), u1, u2⟩], v30, I2) (sub_cons rfl (sub_cons rfl (sub_cons rfl (sub_cons rfl sub_nil)))) (fun _ h => by rw [← three_more, List.length_append]; exact h.sort (by repeat constructor)) (by show n - (i + 1) < n - i; omega) ⟨by show i + 1 ≤ _; omega, by show (rs ++ [_]).length = _; rw [List.length_append, hrl]; rfl, fun r hr => by
        rcases List.mem_append.1 hr with hr | hr
        · exact (hrs r hr).le hx2.le
        · rw [List.mem_singleton.1 hr]; exact ⟨k1, k2⟩, by show (rs ++ [_]).map RV.q = pts (i + 1) ss; rw [List.map_append, hq1, pts_succ, hq]; rfl, hx1.trans hx2 (Nat.le_refl _)⟩
    | exact again (i + 1, rs ++ [⟨mkRat 0 1, u1, u2⟩], v34, I2) (sub_cons rfl (sub_cons rfl (sub_cons rfl (sub_cons rfl sub_nil)))) (fun _ h => by rw [← three_more, List.length_append]; exact h.sort (by repeat constructor)) (by show n - (i + 1) < n - i; omega) ⟨by show i + 1 ≤ _; omega, by show (rs ++ [_]).length = _; rw [List.length_append, hrl]; rfl, fun r hr => by
        rcases List.mem_append.1 hr with hr | hr
        · exact (hrs r hr).le hx2.le
        · rw [List.mem_singleton.1 hr]; exact ⟨k1, k2⟩, by show (rs ++ [_]).map RV.q = pts (i + 1) ss; rw [List.map_append, hq1, pts_succ, hq]; rfl, hx1.trans hx2 (Nat.le_refl _)⟩
  ·
   have f1 := h1
   try simp only [bl] at f1
   refine c_exit (then_x (then_x (blk_eq rfl (then_c (c_seq (c_region ?_))))))
   iterate 2 refine o_pv trivial rfl rfl ?_
   refine o_nil (then_c (c_ret ?_))
   refine ret1 rfl rfl ?_
   have hin : i = n := by omega
   subst hin
   refine leafRowX hx1 (rcs_len rs) (rcs_three rs) (by unfold maxLen; omega) (fun I' hl hs => ⟨rs, hs, fun r hr => (hrs r hr).le hl, hq1⟩)
end Go.Proofs.Ytjgbjaaekknenaa
/-
  Two tapes as one: weights and numbers, plainly. No program stands here.
-/
namespace Go.Proofs.Ytjgbjaaekknenaa
open Go Go.Tw
set_option linter.unusedVariables false
set_option linter.unusedSimpArgs false
set_option linter.unnecessarySimpa false
set_option maxHeartbeats 1000000
/-- An op, its places moved. -/
def mvO (f : Int → Int) (o : OpC) : OpC := ⟨o.code, if 2 ≤ o.code then f o.a else o.a, if 2 ≤ o.code ∧ o.code ≤ 5 then f o.b else o.b, o.e, o.neg, o.n, o.d⟩
theorem mvO_fields (f : Int → Int) (o : OpC) : fieldsOK (mvO f o) = fieldsOK o := by
  unfold fieldsOK mvO
  dsimp only
  by_cases h1 : o.code = 1
  · rw [if_pos h1, if_pos h1, if_neg (by omega), if_neg (by omega)]
  rw [if_neg h1, if_neg h1]
  by_cases h2 : 2 ≤ o.code ∧ o.code ≤ 5
  · simp only [if_pos h2]
  simp only [if_neg h2]
structure Rel (f : Int → Int) (l l' : List Nat) : Prop where
  out : ∀ p : Int, 0 ≤ p → p < l.length → 0 ≤ f p ∧ f p < l'.length ∧ 1 ≤ l'.getD (f p).toNat 0 ∧ l'.getD (f p).toNat 0 ≤ 12 * l.getD p.toNat 0
theorem getD_app_left {α : Type} {l r : List α} {i : Nat} {d : α} (h : i < l.length) : (l ++ r).getD i d = l.getD i d := by
  simp only [List.getD_eq_getElem?_getD]; rw [List.getElem?_append_left h]
theorem getD_app_end {α : Type} {l : List α} {x d : α} : (l ++ [x]).getD l.length d = x := by
  simp only [List.getD_eq_getElem?_getD]; rw [List.getElem?_append_right (Nat.le_refl _), Nat.sub_self]; rfl
theorem Rel.add {f : Int → Int} {l l' : List Nat} {m m' : Nat} (h : Rel f l l') (hf : f (l.length : Nat) = (l'.length : Nat)) (h1 : 1 ≤ m' ∧ m' ≤ 12 * m) : Rel f (l ++ [m]) (l' ++ [m']) := ⟨fun p hp0 hp => by
  simp only [List.length_append, List.length_cons, List.length_nil] at hp ⊢
  by_cases hlt : p < l.length
  · obtain ⟨k1, k2, k3, k4⟩ := h.out p hp0 hlt
    rw [getD_app_left (by omega), getD_app_left (by omega)]
    exact ⟨k1, by omega, k3, k4⟩
  · have e : p = (l.length : Nat) := by omega
    subst e
    rw [hf, Int.toNat_natCast, Int.toNat_natCast, getD_app_end, getD_app_end]
    exact ⟨by omega, by omega, h1⟩⟩
theorem wgts_pre : ∀ {ops : List OpC} {l r : List Nat}, wgts ops l = some r → ∃ s, r = l ++ s
  | [], l, r, h => by cases h; exact ⟨[], by simp⟩
  | o :: ops, l, r, h => by
    unfold wgts at h
    split at h
    · split at h
      · obtain ⟨s, rfl⟩ := wgts_pre h
        exact ⟨_, by rw [List.append_assoc]⟩
      · cases h
    · cases h
theorem wgt_mv {f : Int → Int} {o : OpC} {l l' : List Nat} {m : Nat} (hf : fieldsOK o = true) (h : wgt o l = some m) (hm : m ≤ 12) (hr : Rel f l l') (hl : 0 < l'.length) : ∃ m', wgt (mvO f o) l' = some m' ∧ 1 ≤ m' ∧ m' ≤ 12 * m := by
  have hc := fields_code hf
  rcases wgt_cases h with ⟨h1, rfl⟩ | ⟨h1, ha, hb, hmm, hm2⟩
  · exact ⟨1, by unfold wgt mvO; rw [if_pos h1], by omega, by omega⟩
  · obtain ⟨a1, a2, a3, a4⟩ := hr.out o.a ha.1 ha.2
    have key : ∀ M, wgtM (mvO f o) l' = M → (0 ≤ (mvO f o).b ∧ (mvO f o).b < l'.length) → 1 ≤ M → M ≤ 12 * m → ∃ m', wgt (mvO f o) l' = some m' ∧ 1 ≤ m' ∧ m' ≤ 12 * m := fun M e hb' k1 k2 => by
      refine ⟨M, ?_, k1, k2⟩
      have ea : (mvO f o).a = f o.a := if_pos (by omega)
      unfold wgt
      rw [if_neg (show ¬ (mvO f o).code = 1 from h1), if_neg (by omega), e, if_pos (by omega)]
    unfold wgtM at hmm
    by_cases h2 : 2 ≤ o.code ∧ o.code ≤ 5
    · rw [if_pos h2] at hmm
      obtain ⟨b1, b2, b3, b4⟩ := hr.out o.b hb.1 hb.2
      refine key (l'.getD (f o.a).toNat 0 + l'.getD (f o.b).toNat 0) ?_ ?_ (by omega) (by omega)
      · unfold wgtM mvO; dsimp only; rw [if_pos h2, if_pos h2, if_pos h2.1]
      · have eb : (mvO f o).b = f o.b := if_pos h2
        omega
    rw [if_neg h2] at hmm
    have hb0 : o.b = 0 := by
      unfold fieldsOK at hf
      rw [if_neg h1, if_neg h2] at hf
      split at hf
      · simp only [Bool.and_eq_true, decide_eq_true_eq] at hf; exact hf.2.1
      · split at hf
        · simp only [Bool.and_eq_true, decide_eq_true_eq] at hf; exact hf.2.1
        · cases hf
    have eb : (mvO f o).b = o.b := if_neg h2
    by_cases h7 : o.code = 7
    · rw [if_pos h7] at hmm
      refine key (l'.getD (f o.a).toNat 0 * max 1 o.e.natAbs) ?_ (by omega) ?_ ?_
      · unfold wgtM mvO; dsimp only; rw [if_neg h2, if_pos h7, if_pos (by omega)]
      · exact Nat.le_trans a3 (Nat.le_mul_of_pos_right _ (by omega))
      · rw [hmm, ← Nat.mul_assoc]; exact Nat.mul_le_mul_right _ a4
    · rw [if_neg h7] at hmm
      refine key (l'.getD (f o.a).toNat 0) ?_ (by omega) (by omega) (by omega)
      unfold wgtM mvO; dsimp only; rw [if_neg h2, if_neg h7, if_pos (by omega)]
theorem wgts_mv {f : Int → Int} : ∀ {ops : List OpC} {l l' r : List Nat}, wgts ops l = some r → (∀ x ∈ r, x ≤ 12) → Rel f l l' → 0 < l'.length → (∀ k : Nat, f ((l.length + k : Nat) : Int) = ((l'.length + k : Nat) : Int)) →
    ∃ r', wgts (ops.map (mvO f)) l' = some r' ∧ Rel f r r' ∧ r'.length = l'.length + ops.length
  | [], l, l', r, h, _, hr, _, _ => by cases h; exact ⟨l', rfl, hr, rfl⟩
  | o :: ops, l, l', r, h, hle, hr, hl, hf => by
    unfold wgts at h
    split at h
    · rename_i hfo
      split at h
      · rename_i m hm
        obtain ⟨s, hs⟩ := wgts_pre h
        have hm12 : m ≤ 12 := hle m (by rw [hs]; simp)
        obtain ⟨m', h1, h2, h3⟩ := wgt_mv hfo hm hm12 hr hl
        obtain ⟨r', k1, k2, k3⟩ := wgts_mv h hle (hr.add (hf 0) ⟨h2, h3⟩) (by simp) (fun k => by
          have := hf (1 + k)
          simp only [List.length_append, List.length_cons, List.length_nil]
          rw [show l.length + (0 + 1) + k = l.length + (1 + k) by omega, this]; congr 1; omega)
        refine ⟨r', ?_, k2, by rw [k3]; simp; omega⟩
        rw [List.map_cons]
        unfold wgts
        rw [mvO_fields, if_pos hfo, h1]
        exact k1
      · cases h
    · cases h
structure RelQ (f : Int → Int) (l l' : List Rat) : Prop where
  out : ∀ p : Int, 0 ≤ p → p < l.length → 0 ≤ f p ∧ f p < l'.length ∧ zth l' (f p) = zth l p
theorem zth_app_left {l r : List Rat} {p : Int} (h0 : 0 ≤ p) (h : p < l.length) : zth (l ++ r) p = zth l p := getD_app_left (by omega)
theorem RelQ.add {f : Int → Int} {l l' : List Rat} {q : Rat} (h : RelQ f l l') (hf : f (l.length : Nat) = (l'.length : Nat)) : RelQ f (l ++ [q]) (l' ++ [q]) := ⟨fun p hp0 hp => by
  simp only [List.length_append, List.length_cons, List.length_nil] at hp ⊢
  by_cases hlt : p < l.length
  · obtain ⟨k1, k2, k3⟩ := h.out p hp0 hlt
    rw [zth_app_left (by omega) (by omega), zth_app_left hp0 hlt]
    exact ⟨k1, by omega, k3⟩
  · have e : p = (l.length : Nat) := by omega
    subst e
    rw [hf]
    refine ⟨by omega, by omega, ?_⟩
    unfold zth
    rw [Int.toNat_natCast, Int.toNat_natCast, getD_app_end, getD_app_end]⟩
theorem opR_mv {f : Int → Int} {o : OpC} {l : List Nat} {m : Nat} {qs qs' : List Rat} (h : wgt o l = some m) (hl : l.length = qs.length) (hc : 1 ≤ o.code ∧ o.code ≤ 7) (hr : RelQ f qs qs') : opR (mvO f o) qs' = opR o qs := by
  rcases wgt_cases h with ⟨h1, rfl⟩ | ⟨h1, ha, hb, _⟩
  · unfold opR mvO
    dsimp only
    rw [if_neg (by omega), if_neg (by omega), if_neg (by omega), if_neg (by omega), if_neg (by omega), if_neg (by omega), if_neg (by omega), if_neg (by omega), if_neg (by omega), if_neg (by omega), if_neg (by omega), if_neg (by omega)]
  · obtain ⟨_, _, a3⟩ := hr.out o.a ha.1 (by omega)
    obtain ⟨_, _, b3⟩ := hr.out o.b hb.1 (by omega)
    unfold opR mvO
    dsimp only
    rw [if_pos (show 2 ≤ o.code by omega), a3]
    by_cases h5 : 2 ≤ o.code ∧ o.code ≤ 5
    · rw [if_pos h5, b3]
    · rw [if_neg (show ¬ o.code = 2 by omega), if_neg (show ¬ o.code = 3 by omega), if_neg (show ¬ o.code = 4 by omega), if_neg (show ¬ o.code = 5 by omega), if_neg (show ¬ o.code = 2 by omega), if_neg (show ¬ o.code = 3 by omega), if_neg (show ¬ o.code = 4 by omega), if_neg (show ¬ o.code = 5 by omega)]
/-- Both come to the same, or to nothing. -/
inductive RelO (f : Int → Int) : Option (List Rat) → Option (List Rat) → Prop
  | none : RelO f none none
  | some {l l' : List Rat} : RelQ f l l' → RelO f (some l) (some l')
theorem opsR_mv {f : Int → Int} : ∀ {ops : List OpC} {l r : List Nat} {qs qs' : List Rat}, wgts ops l = some r → l.length = qs.length → RelQ f qs qs' → (∀ k : Nat, f ((qs.length + k : Nat) : Int) = ((qs'.length + k : Nat) : Int)) →
    RelO f (opsR ops qs) (opsR (ops.map (mvO f)) qs')
  | [], l, r, qs, qs', _, _, hr, _ => .some hr
  | o :: ops, l, r, qs, qs', h, hl, hr, hf => by
    unfold wgts at h
    split at h
    · rename_i hfo
      split at h
      · rename_i m hm
        rw [List.map_cons]
        unfold opsR
        rw [opR_mv hm hl (fields_code hfo) hr]
        cases hq : opR o qs with
        | none => exact .none
        | some q =>
          exact opsR_mv h (by simp [hl]) (hr.add (hf 0)) (fun k => by
            have := hf (1 + k)
            simp only [List.length_append, List.length_cons, List.length_nil]
            rw [show qs.length + (0 + 1) + k = qs.length + (1 + k) by omega, this]; congr 1; omega)
      · cases h
    · cases h
theorem opsR_app : ∀ (a b : List OpC) (qs : List Rat), opsR (a ++ b) qs = match opsR a qs with | some l => opsR b l | none => none
  | [], b, qs => rfl
  | o :: a, b, qs => by
    show (match opR o qs with | some q => opsR (a ++ b) (qs ++ [q]) | none => none) = match (match opR o qs with | some q => opsR a (qs ++ [q]) | none => none) with | some l => opsR b l | none => none
    cases opR o qs with
    | none => rfl
    | some q => exact opsR_app a b _
theorem wgts_app : ∀ (a b : List OpC) (l : List Nat), wgts (a ++ b) l = match wgts a l with | some r => wgts b r | none => none
  | [], b, l => rfl
  | o :: a, b, l => by
    show (if fieldsOK o = true then (match wgt o l with | some m => wgts (a ++ b) (l ++ [m]) | none => none) else none) = match (if fieldsOK o = true then (match wgt o l with | some m => wgts a (l ++ [m]) | none => none) else none) with | some r => wgts b r | none => none
    cases fieldsOK o with
    | false => rfl
    | true =>
      simp only [if_true]
      cases wgt o l with
      | none => rfl
      | some m => exact wgts_app a b _
theorem wgts_places : ∀ {ops : List OpC} {l r : List Nat}, wgts ops l = some r → ∀ o ∈ ops, fieldsOK o = true ∧ (o.code ≠ 1 → 0 ≤ o.a ∧ o.a < r.length ∧ 0 ≤ o.b ∧ o.b < r.length)
  | [], l, r, h, o, ho => by cases ho
  | x :: ops, l, r, h, o, ho => by
    unfold wgts at h
    split at h
    · rename_i hfo
      split at h
      · rename_i m hm
        obtain ⟨s, hs⟩ := wgts_pre h
        rcases List.mem_cons.1 ho with rfl | ho
        · refine ⟨hfo, fun h1 => ?_⟩
          rcases wgt_cases hm with ⟨h2, _⟩ | ⟨_, ha, hb, _⟩
          · exact absurd h2 h1
          · rw [hs]; simp; omega
        · exact wgts_places h o ho
      · cases h
    · cases h
/-- A tape with inputs of weight twelve. -/
theorem tape_bd12 {t : TapeC} {w : List Nat} {xs : List NV} (hw : tapeW t = some w) (h12 : ∀ x ∈ w, x ≤ 12) (hf : ∀ o ∈ t.ops, OpC.few 3000 o) (hq : ∀ x ∈ xs, BdQ 12 x.q) (hl : ∀ x ∈ xs, x.n.length ≤ 3000 ∧ x.d.length ≤ 3000) : EvOKr t xs ∧ EvOK t xs := by
  obtain ⟨p1, p2, p3, p4, p5, p6, p7⟩ := tapeW_parts hw
  have hrel : Rel id (List.replicate t.ins.toNat 1) (List.replicate t.ins.toNat 12) := ⟨fun p h0 hp => by
    rw [List.length_replicate] at hp
    rw [List.length_replicate]
    simp only [id, List.getD_eq_getElem?_getD, List.getElem?_replicate]
    rw [if_pos (by omega), if_pos (by omega)]
    exact ⟨h0, hp, by decide, by decide⟩⟩
  obtain ⟨r', k1, k2, k3⟩ := wgts_mv p6 h12 hrel (by rw [List.length_replicate]; omega) (fun k => by simp)
  have eid : t.ops.map (mvO id) = t.ops := by
    have : ∀ o : OpC, mvO id o = o := fun o => by unfold mvO; simp
    rw [List.map_congr_left (fun o _ => this o), List.map_id']
  rw [eid] at k1
  have key : (xs.length : Int) = t.ins → OpsOKr t.ops (xs.map NV.q) ∧ ∀ qr, opsR t.ops (xs.map NV.q) = some qr → BdL r' qr := fun hx => by
    have e : t.ins.toNat = xs.length := by omega
    rw [e] at k1
    refine ops_bd k1 ⟨by rw [List.length_replicate, List.length_map], fun i hi => ?_, fun x hx => by rw [(List.mem_replicate.1 hx).2]; omega⟩ (by rw [List.length_replicate]; omega) hf
    rw [List.length_replicate] at hi
    rw [List.getD_eq_getElem?_getD, List.getElem?_replicate, if_pos hi]
    obtain ⟨x, hx, hxe⟩ := List.mem_map.1 (getD_mem (d := 0) (by rw [List.length_map]; exact hi : i < (xs.map NV.q).length))
    rw [← hxe]
    exact hq x hx
  refine ⟨⟨hf, hl, fun h hx => (key hx).1⟩, ⟨fun o ho => ?_, fun x hx => ?_, fun h hx => ?_, fun l hl' q hq' => ?_⟩⟩
  · have := hf o ho; exact ⟨by have := this.1; omega, by have := this.2; omega⟩
  · have := hl x hx; omega
  · exact ⟨by omega, (key hx).1.ok⟩
  · obtain ⟨w', h1, h2, h3⟩ := evalZ_parts hl'
    exact (((key h2).2 l h3).few q hq').le (by decide)
end Go.Proofs.Ytjgbjaaekknenaa
/-
  Chapter 15's laws: ValueFront.
-/
namespace Go.Proofs.Ytjgbjaaekknenaa
open Go Go.Tw
set_option linter.unusedVariables false
set_option linter.unusedSimpArgs false
set_option linter.unnecessarySimpa false
set_option maxHeartbeats 1000000
theorem point_anyZ (z : Int) (vl : Value) (ss : List SmallC) {I : Hp} (hz : 0 ≤ z ∧ z ≤ 1000) (hl : SmV I vl ss) : Fun Try.prog 6 [.int .i64 z, vl] I [] (fun v I' _ => RsV I' v (pts z.toNat ss)) := by
  obtain ⟨n, rfl⟩ : ∃ n : Nat, z = n := ⟨z.toNat, by omega⟩
  exact point_any n vl ss (by omega) hl
def frontT (t : TapeC) (n : Nat) : TapeC := ⟨t.ins, t.ops.take n, [0]⟩
theorem evalZ_right {t : TapeC} {w : List Nat} {xs : List NV} (hw : tapeW t = some w) (hx : (xs.length : Int) = t.ins) : evalZ t xs = match opsR t.ops (xs.map NV.q) with
    | some l => .ok l
    | none => .error 3 := by
  unfold evalZ
  rw [hw, if_neg (by simp), if_neg (by omega)]
  cases opsR t.ops (xs.map NV.q) <;> rfl
theorem front_right {t : TapeC} {w : List Nat} {n : Nat} (hw : tapeW t = some w) : ∃ w', tapeW (frontT t n) = some w' := by
  obtain ⟨p1, p2, p3, p4, p5, p6, p7⟩ := tapeW_parts hw
  have e : wgts (t.ops.take n ++ t.ops.drop n) (List.replicate t.ins.toNat 1) = some w := by rw [List.take_append_drop]; exact p6
  rw [wgts_app] at e
  cases hr : wgts (t.ops.take n) (List.replicate t.ins.toNat 1) with
  | none => rw [hr] at e; cases e
  | some r =>
    refine ⟨r, ?_⟩
    have hl := wgts_len hr
    rw [List.length_replicate] at hl
    have e1 : (frontT t n).ins = t.ins := rfl
    have e2 : (frontT t n).outs.length = 1 := rfl
    have e3 : (frontT t n).ops.length ≤ t.ops.length := by show (t.ops.take n).length ≤ _; rw [List.length_take]; omega
    unfold tapeW
    rw [if_neg (by omega), e1]
    show (match wgts (t.ops.take n) (List.replicate t.ins.toNat 1) with | none => none | some l => if ([0].all fun z => decide (0 ≤ z ∧ z < (l.length : Int))) = true then some l else none) = some r
    rw [hr]
    refine if_pos ?_
    rw [List.all_cons, List.all_nil, Bool.and_true, decide_eq_true_eq]
    omega
theorem front_law {t : TapeC} {w : List Nat} {n : Nat} (hn : n ≤ t.ops.length) (hw : tapeW t = some w) {xs : List NV} (hx : (xs.length : Int) = t.ins) :
    (errOf (evalZ t xs) = 0 → errOf (evalZ (frontT t n) xs) = 0 ∧ resOf (evalZ (frontT t n) xs) = (resOf (evalZ t xs)).take (xs.length + n) ∧ (resOf (evalZ t xs)).length = xs.length + t.ops.length) ∧ (errOf (evalZ t xs) = 0 ∨ errOf (evalZ t xs) = 3) ∧ (errOf (evalZ (frontT t n) xs) = 0 ∨ errOf (evalZ (frontT t n) xs) = 3) := by
  obtain ⟨w', hw'⟩ := front_right (n := n) hw
  have e1 := evalZ_right hw hx
  have e2 := evalZ_right hw' (xs := xs) hx
  have e3 : opsR (t.ops.take n ++ t.ops.drop n) (xs.map NV.q) = opsR t.ops (xs.map NV.q) := by rw [List.take_append_drop]
  rw [opsR_app] at e3
  have e4 : (frontT t n).ops = t.ops.take n := rfl
  rw [e4] at e2
  cases ha : opsR (t.ops.take n) (xs.map NV.q) with
  | none =>
    rw [ha] at e2 e3
    change none = _ at e3
    rw [← e3] at e1
    rw [e1, e2]
    exact ⟨fun h => (by cases h), .inr rfl, .inr rfl⟩
  | some la =>
    rw [ha] at e2 e3
    change opsR (t.ops.drop n) la = _ at e3
    rw [← e3] at e1
    have hla := opsR_len ha
    rw [List.length_map, List.length_take, Nat.min_eq_left hn] at hla
    cases hb : opsR (t.ops.drop n) la with
    | none =>
      rw [hb] at e1
      rw [e1, e2]
      exact ⟨fun h => (by cases h), .inr rfl, .inl rfl⟩
    | some lb =>
      rw [hb] at e1
      rw [e1, e2]
      have hlb := opsR_len hb
      rw [List.length_drop] at hlb
      refine ⟨fun _ => ⟨rfl, ?_, ?_⟩, .inl rfl, .inl rfl⟩
      · show la = lb.take (xs.length + n)
        obtain ⟨s, rfl⟩ := opsR_pre hb
        rw [← hla, List.take_left']
        rfl
      · show lb.length = _
        omega
where
  opsR_pre : ∀ {ops : List OpC} {l r : List Rat}, opsR ops l = some r → ∃ s, r = l ++ s
    | [], l, r, h => by cases h; exact ⟨[], by simp⟩
    | o :: ops, l, r, h => by
      unfold opsR at h
      split at h
      · obtain ⟨s, rfl⟩ := opsR_pre h
        exact ⟨_, by rw [List.append_assoc]⟩
      · cases h
theorem RsV.cut {I : Hp} {v : Value} {rs : List RV} (h1 : Slc I 3 v (rcs rs)) (h2 : ∀ r ∈ rs, r.ok I) {k : Nat} (hk : k ≤ rs.length) : RsV I (slcCut v 0 k 3) ((rs.map RV.q).take k) := by
  have h := h1.cut (lo := 0) (hi := k) (Nat.zero_le _) (by rw [rcs_len]; exact hk)
  refine ⟨rs.take k, ?_, fun r hr => h2 r (List.mem_of_mem_take hr), List.map_take⟩
  rw [List.drop_zero] at h
  unfold rcs at h ⊢
  rw [List.map_take]
  exact h
theorem ValueFront_any (ins k : Int) (vouts vl vs : Value) (outs : List Int) (ts : List TurnC) (ss : List SmallC) {I : Hp} (hins : 0 ≤ ins ∧ ins ≤ 255) (hk : 0 ≤ k ∧ k ≤ 255) (ho : ByV I vouts outs) (hl : TnV I vl ts) (hs : SmV I vs ss) :
    Fun Try.prog 3 [.int .u8 ins, vouts, vl, .int .u8 k, vs] I [] (fun v _ _ => v = .bool true) := by
  have hbl := bcs_len outs
  have htk : (ts.map TurnC.cells).length = ts.length := List.length_map _
  intro w hw
  refine enter5 _ Try.func3 rfl Try.ntmps3 rfl ?_ hw
  refine c_seq (c_region ?_)
  refine o_pv trivial rfl rfl ?_
  refine o_nil (then_c (c_seq (c_region ?_)))
  refine o_callQ trivial rfl Try.call4 rfl awake15_any ?_
  refine o_pv trivial rfl rfl ?_
  refine o_nil (then_c (c_seq (c_seq (c_region ?_))))
  refine o_pv trivial rfl rfl ?_
  refine o_lenSlc trivial rfl Try.underlying23 rfl (hl.s) ?_
  refine o_pv trivial rfl rfl ?_
  refine' o_or trivial trivial rfl rfl rfl rfl rfl rfl rfl rfl (fun hb24 => ?_) ?_
  rotate_left
  ·
   have fb24 := hb24
   try simp only [bl] at fb24
   refine o_pv (wants_some rfl rfl hb24) rfl rfl ?_
   refine o_lenSlc (wants_some rfl rfl hb24) rfl Try.underlying22 rfl (ho.s) ?_
   refine o_pv (wants_some rfl rfl hb24) rfl rfl ?_
   refine o_nil ?_
   exact joins rfl
  refine o_nil (then_c ?_)
  refine c_cond rfl (fun h1 => ?_) (fun h1 => ?_)
  ·
   have f1 := h1
   try simp only [bl] at f1
   refine c_seq (c_region ?_)
   iterate 2 refine o_pv trivial rfl rfl ?_
   refine o_nil (then_c (c_ret (then_r ?_)))
   refine ret1 rfl rfl ?_
   exact leaf0 rfl
  ·
   have f1 := h1
   try simp only [bl] at f1
   obtain ⟨hTw, hTf⟩ := madeT_ok (ins := ins) (outs := outs) (ts := ts) hins (by omega) hl.ok (by omega)
   refine c_skip (then_c (c_seq (c_region ?_)))
   iterate 3 refine o_pv trivial rfl rfl ?_
   refine o_callI trivial rfl Try.call5 rfl (made_any ins 8 vouts vl outs ts hins ho hl (by decide) (by omega) (by omega)) ?_
   rintro _ I1 hx1 ⟨vo, vu, os, rfl, htv⟩
   have hso1 := htv.so
   have hsu1 := htv.su
   have hosl : os.length = ts.length := by
     rw [← List.length_map (f := OpV.c), htv.eq]
     exact (made14_ok hl.ok (Twelve.ones (k := (1 + ins % 3).toNat) (by omega))).2.2.1
   have hoT : (madeT ins outs ts).ops.length = ts.length := (made14_ok hl.ok (Twelve.ones (k := (1 + ins % 3).toNat) (by omega))).2.2.1
   have hoc1 : (os.map OpV.cells).length = os.length := List.length_map _
   refine o_alloc trivial rfl Try.zeroValue29 rfl (fun b12 => ?_)
   refine o_store trivial rfl rfl rfl Try.sizeOf29 rfl (by first | rfl | (repeat' (first | exact rfl | exact one_nil | refine one_cons ?_ ?_ | exact (Ws.cells1 (by assumption)).2 | exact (Slc.cells1 (by assumption)).2))) (by repeat constructor) (by repeat constructor) ?_
   refine o_nil (then_c (c_seq (c_region ?_)))
   refine o_pv trivial rfl rfl ?_
   first | refine o_convIn trivial rfl Try.underlying5 Try.underlying3 rfl (by rw [IntWalk.i64_in _ (by omega)]) ?_ | refine o_conv trivial rfl Try.underlying5 Try.underlying3 rfl ?_
   refine o_fieldAddr (T := 26) (off := 1) trivial rfl Try.underlying29 rfl rfl rfl Try.sizeOf26 rfl rfl ?_
   refine o_load1 trivial rfl Try.isAgg26 rfl (by repeat constructor) (by repeat constructor) ?_
   refine o_lenSlc trivial rfl Try.underlying26 rfl (hso1) ?_
   first | (refine o_add trivial rfl rfl rfl ?_ ?_; (omega)) | refine o_pv trivial rfl rfl ?_
   refine o_rem trivial rfl rfl rfl (by omega) ?_
   refine o_pv trivial rfl rfl ?_
   refine o_nil (then_c (c_seq ?_))
   have hn0 := mod_in (a := k) (n := os.length + 1) (by omega)
   have en : k % (((os.map OpV.cells).length : Nat) + 1) = k % ((os.length + 1 : Nat) : Int) := by rw [hoc1]; rfl
   obtain ⟨n, hn⟩ : ∃ n : Nat, k % (((os.map OpV.cells).length : Nat) + 1) = n := ⟨(k % ((os.length + 1 : Nat) : Int)).toNat, by omega⟩
   have hn2 : n ≤ os.length := by omega
   rw [hn]
   have hcut := hso1.cut (lo := 0) (hi := ((n : Nat) : Int).toNat) (Nat.zero_le _) (by omega)
   refine h_beginB (m := 10) [.box b12 _] (by repeat constructor) (by kernel_rfl) rfl ?_
   refine' h_take (i := 0) #[true, false, false, false, false, false, false, false, false, false] rfl rfl rfl (by kernel_rfl) (by kernel_rfl) (by kernel_rfl) rfl (qp_then qp_bp) (fun _ h => (h.sort (by repeat constructor)).fewer (Hp.Le.refl _)) ?hh0 ?kk0
   case hh0 =>
    refine o_fieldAddr (T := 3) (off := 0) trivial rfl Try.underlying29 rfl rfl rfl Try.sizeOf3 rfl rfl ?_
    refine o_nil ?_
    exact ⟨fun _ _ ha _ => ha⟩
   refine' h_take (i := 1) #[true, true, false, false, false, false, false, false, false, false] rfl rfl rfl (by kernel_rfl) (by kernel_rfl) (by kernel_rfl) rfl (qp_then qp_bp) (fun _ h => (h.sort (by repeat constructor)).fewer (Hp.Le.refl _)) ?hh1 ?kk1
   case hh1 =>
    refine o_load1 trivial rfl Try.isAgg3 rfl (by repeat constructor) (by repeat constructor) ?_
    refine o_nil ?_
    exact ⟨fun _ _ ha _ => ha⟩
   refine' h_take (i := 2) #[true, true, true, false, false, false, false, false, false, false] rfl rfl rfl (by kernel_rfl) (by kernel_rfl) (by kernel_rfl) rfl (qp_then qp_bp) (fun _ h => (h.sort (by repeat constructor)).fewer (Hp.Le.refl _)) ?hh2 ?kk2
   case hh2 =>
    refine o_fieldAddr (T := 26) (off := 1) trivial rfl Try.underlying29 rfl rfl rfl Try.sizeOf26 rfl rfl ?_
    refine o_nil ?_
    exact ⟨fun _ _ ha _ => ha⟩
   refine' h_take (i := 3) #[true, true, true, true, false, false, false, false, false, false] rfl rfl rfl (by kernel_rfl) (by kernel_rfl) (by kernel_rfl) rfl (qp_then qp_bp) (fun _ h => (h.sort (by repeat constructor)).fewer (Hp.Le.refl _)) ?hh3 ?kk3
   case hh3 =>
    refine o_load1 trivial rfl Try.isAgg26 rfl (by repeat constructor) (by repeat constructor) ?_
    refine o_nil ?_
    exact ⟨fun _ _ ha _ => ha⟩
   refine' h_take (i := 4) #[true, true, true, true, true, false, false, false, false, false] rfl rfl rfl (by kernel_rfl) (by kernel_rfl) (by kernel_rfl) rfl (qp_then qp_bp) (fun _ h => (h.sort (by repeat constructor)).fewer (Hp.Le.refl _)) ?hh4 ?kk4
   case hh4 =>
    refine o_pv trivial rfl rfl ?_
    refine o_nil ?_
    exact ⟨fun _ _ ha _ => ha⟩
   refine' h_take (i := 5) #[true, true, true, true, true, true, false, false, false, false] rfl rfl rfl (by kernel_rfl) (by kernel_rfl) (by kernel_rfl) rfl (qp_then qp_bp) (fun _ h => (h.sort (by repeat constructor)).fewer (Hp.Le.refl _)) ?hh5 ?kk5
   case hh5 =>
    refine o_cutHi trivial rfl Try.underlying26 Try.sizeOf43 rfl (hso1) rfl (by omega) ?_
    refine o_nil ?_
    exact ⟨fun _ _ ha _ => ha⟩
   refine h_go [6, 8] (by kernel_rfl) rfl (TWHs.cons ?_ (TWHs.cons ?_ TWHs.nil))
   ·
    refine h_op #[true, true, true, true, true, true, true, false, false, false] rfl rfl ?_
    refine o_buildSl trivial rfl Try.underlying27 Try.sizeOf3 Try.zeroValue3 (by decide) (by decide) rfl (by repeat first | exact rfl | constructor) rfl (fun b47 => ?_)
    refine o_nil ?_
    refine h_next (fun _ h => (h.sort (by repeat constructor)).fewer (Hp.Le.refl _)) ?_
    refine' h_take (i := 7) #[true, true, true, true, true, true, true, true, false, false] rfl rfl rfl (by kernel_rfl) (by kernel_rfl) (by kernel_rfl) rfl (qp_then qp_bp) (fun _ h => (h.sort (by repeat constructor)).fewer (Hp.Le.refl _)) ?hh6 ?kk6
    case hh6 =>
     refine o_buildS trivial rfl (bld29) rfl (.cons rfl rfl rfl (by repeat constructor) (.cons rfl (by first | exact (Ws.cells1 (by assumption)).1 | exact (Slc.cells1 (by assumption)).1 | rfl) (by rfl) (by repeat constructor) (.cons rfl (by first | exact (Ws.cells1 (by assumption)).1 | exact (Slc.cells1 (by assumption)).1 | rfl) (by rfl) (by repeat constructor) .nil))) ?_
     refine o_nil ?_
     exact ⟨fun _ _ ha _ => ha⟩
    refine h_go [8] (by kernel_rfl) rfl (TWHs.cons ?_ TWHs.nil)
    refine h_op #[true, true, true, true, true, true, true, true, true, false] rfl rfl ?_
    refine o_alloc trivial rfl Try.zeroValue29 rfl (fun b14 => ?_)
    refine o_nil ?_
    refine h_next (fun _ h => (h.sort (by repeat constructor)).fewer (Hp.Le.refl _)) ?_
    refine h_go [9] (by kernel_rfl) rfl (TWHs.cons ?_ TWHs.nil)
    refine h_op #[true, true, true, true, true, true, true, true, true, true] rfl rfl ?_
    refine o_store trivial rfl rfl rfl Try.sizeOf29 rfl (by first | rfl | (repeat' (first | exact rfl | exact one_nil | refine one_cons ?_ ?_ | exact (Ws.cells1 (by assumption)).2 | exact (Slc.cells1 (by assumption)).2))) (by repeat constructor) (by repeat constructor) ?_
    refine o_nil ?_
    refine h_next (fun _ h => (h.sort (by repeat constructor)).fewer (Hp.Le.refl _)) ?_
    refine h_end (by kernel_rfl) ?_
    refine then_c (c_seq ?_)
    refine c_sealB (b := b47) (by repeat constructor) (fun I2 hx2 hb47 => ?_)
    have htA := htv.le hx2.le
    have htU : TapeV I2 (slcCut vo 0 n 7) (.slice (some ⟨b47, 0, none⟩) 1 1) (frontT (madeT ins outs ts) n) (os.take n) := by
      refine ⟨?_, fun o ho => htA.ok o (List.mem_of_mem_take ho), ?_, ?_⟩
      · have h := htA.so.cut (lo := 0) (hi := n) (Nat.zero_le _) (by omega)
        rw [List.drop_zero] at h
        rw [List.map_take]
        exact h
      · show _ = (madeT ins outs ts).ops.take n
        rw [List.map_take, htv.eq]
      · exact Slc.of_box (xss := ics [0]) hb47 (ics_one _) (by unfold maxLen; simp [ics]) (Nat.le_refl _)
    refine c_region ?_
    refine o_fieldAddr (T := 3) (off := 0) trivial rfl Try.underlying29 rfl rfl rfl Try.sizeOf3 rfl rfl ?_
    refine o_load1 trivial rfl Try.isAgg3 rfl (by repeat constructor) (by repeat constructor) ?_
    refine o_pv trivial rfl rfl ?_
    refine o_callI trivial rfl Try.call6 rfl (point_anyZ (1 + ins % 3) vs ss (by omega) (hs.le (hx1.le.trans hx2.le))) ?_
    rintro u3 I3 hx3 hp3
    refine o_pv trivial rfl rfl ?_
    refine o_nil (then_c (c_seq ?_))
    obtain ⟨xs, hpt, hxq, hxv⟩ := RsV.pt hp3
    have hxl : (xs.length : Int) = (madeT ins outs ts).ins := by
      rw [← List.length_map (f := NV.q), hxq, pts_len]
      show (((1 + ins % 3).toNat : Nat) : Int) = 1 + ins % 3
      omega
    have hxb : ∀ x ∈ xs, BdQ 1 x.q := fun x hx => by
      obtain ⟨q, vn, vd, hq, rfl⟩ := hxv x hx
      rw [NV.of_q]; exact pts_bd hs.ok _ q hq
    have hxn : ∀ x ∈ xs, x.n.length ≤ 3000 ∧ x.d.length ≤ 3000 := fun x hx => by
      obtain ⟨q, vn, vd, hq, rfl⟩ := hxv x hx
      exact few_const (pts_bd hs.ok _ q hq)
    have hbT := (tape_bd hTf hxb hxn).2
    have hbU := (tape_bd (t := frontT (madeT ins outs ts) n) (fun o ho => hTf o (List.mem_of_mem_take ho)) hxb hxn).2
    obtain ⟨L1, L2, L3⟩ := front_law (n := n) (by omega) hTw hxl
    refine c_region ?_
    refine o_loadA trivial rfl Try.isAgg29 Try.sizeOf29 rfl (by repeat constructor) (by repeat constructor) ?_
    refine o_pv trivial rfl rfl ?_
    refine o_callI trivial rfl Try.call7 rfl (exR_fun (eval_any (madeT ins outs ts) vo vu _ os xs (htA.le hx3.le) hpt hbT) evalZ_ne) ?_
    rintro _ I4 hx4 ⟨u4, rfl, r4⟩
    iterate 5 refine o_pv trivial rfl rfl ?_
    refine o_nil (then_c (c_seq (c_region ?_)))
    refine o_loadA trivial rfl Try.isAgg29 Try.sizeOf29 rfl (by repeat constructor) (by repeat constructor) ?_
    refine o_pv trivial rfl rfl ?_
    refine o_callI trivial rfl Try.call7 rfl (exR_fun (eval_any (frontT (madeT ins outs ts) n) _ _ _ _ xs (htU.le (hx3.le.trans hx4.le)) (hpt.le hx4.le) hbU) evalZ_ne) ?_
    rintro _ I5 hx5 ⟨u5, rfl, r5⟩
    iterate 5 refine o_pv trivial rfl rfl ?_
    refine o_nil (then_c (c_seq (c_seq ?_)))
    obtain ⟨rs4, q1, q2, q3⟩ := (r4.le hx5.le).out
    obtain ⟨rs5, q4, q5, q6⟩ := r5.out
    have hl4 := rcs_len rs4
    have hl5 := rcs_len rs5
    have hlaw : errOf (evalZ (madeT ins outs ts) xs) = 0 → rs5.length = xs.length + n ∧ rs5.length ≤ rs4.length ∧ rs5.map RV.q = (rs4.map RV.q).take rs5.length := fun h0 => by
      obtain ⟨m1, m2, m3⟩ := L1 h0
      rw [← q3, ← q6] at m2
      rw [← q3, List.length_map] at m3
      have m4 := congrArg List.length m2
      rw [List.length_map, List.length_take, List.length_map] at m4
      have m5 : rs5.length = xs.length + n := by omega
      rw [m5]
      exact ⟨rfl, by omega, m2⟩
    have hxl2 : (xs.length : Int) = 1 + ins % 3 := hxl
    refine c_region ?_
    iterate 2 refine o_pv trivial rfl rfl ?_
    refine' o_and trivial trivial rfl rfl rfl rfl rfl rfl rfl rfl (fun hb67 => ?_) ?_
    rotate_left
    ·
     have fb67 := hb67
     try simp only [bl] at fb67
     have h0 : errOf (evalZ (madeT ins outs ts) xs) = 0 := by simpa using hb67
     obtain ⟨y1, y2, y3⟩ := hlaw h0
     refine o_pv (wants_some rfl rfl hb67) rfl rfl ?_
     refine o_lenSlc (wants_some rfl rfl hb67) rfl Try.underlying31 rfl (q1) ?_
     refine o_pv (wants_some rfl rfl hb67) rfl rfl ?_
     refine o_lenSlc (wants_some rfl rfl hb67) rfl Try.underlying31 rfl (q4) ?_
     refine o_pv (wants_some rfl rfl hb67) rfl rfl ?_
     refine' o_or (wants_some rfl rfl hb67) (wants_some rfl rfl hb67) rfl rfl rfl rfl rfl rfl rfl rfl (fun hb73 => ?_) ?_
     rotate_left
     ·
      have fb73 := hb73
      try simp only [bl] at fb73
      refine o_pv (wants_some rfl rfl hb73) rfl rfl ?_
      refine o_lenSlc (wants_some rfl rfl hb73) rfl Try.underlying31 rfl (q4) ?_
      refine o_fieldAddr (T := 3) (off := 0) (wants_some rfl rfl hb73) rfl Try.underlying29 rfl rfl rfl Try.sizeOf3 rfl rfl ?_
      refine o_load1 (wants_some rfl rfl hb73) rfl Try.isAgg3 rfl (by repeat constructor) (by repeat constructor) ?_
      refine o_pv (wants_some rfl rfl hb73) rfl rfl ?_
      first | (refine o_add (wants_some rfl rfl hb73) rfl rfl rfl ?_ ?_; (omega)) | refine o_pv (wants_some rfl rfl hb73) rfl rfl ?_
      refine o_pv (wants_some rfl rfl hb73) rfl rfl ?_
      refine o_nil ?_
      exact joins rfl
     refine' o_or (wants_some rfl rfl hb67) (wants_some rfl rfl hb67) rfl rfl rfl rfl rfl rfl rfl rfl (fun hb82 => ?_) ?_
     rotate_left
     ·
      have fb82 := hb82
      try simp only [bl] at fb82
      iterate 2 refine o_pv (wants_some rfl rfl hb82) rfl rfl ?_
      refine o_lenSlc (wants_some rfl rfl hb82) rfl Try.underlying31 rfl (q4) ?_
      refine o_cutHi (wants_some rfl rfl hb82) rfl Try.underlying31 Try.sizeOf40 rfl (q1) rfl (by omega) ?_
      refine o_pv (wants_some rfl rfl hb82) rfl rfl ?_
      rw [show ((rcs rs5).length : Int).toNat = rs5.length by rw [rcs_len]; rfl]
      refine o_callQ (wants_some rfl rfl hb82) rfl Try.call8 rfl (rAll_any _ _ _ _ (RsV.cut (k := rs5.length) q1 q2 y2) ⟨rs5, q4, q5, rfl⟩) ?_
      refine o_pv (wants_some rfl rfl hb82) rfl rfl ?_
      refine o_nil ?_
      exact joins rfl
     refine o_nil ?_
     exact joins rfl
    refine o_nil (then_c ?_)
    refine c_cond rfl (fun h2 => ?_) (fun h2 => ?_)
    ·
     have f2 := h2
     try simp only [bl] at f2
     exfalso
     obtain ⟨y1, y2, y3⟩ := hlaw f2.1
     rcases f2.2 with (g | g) | g
     · omega
     · omega
     · exact g y3.symm
    ·
     have f2 := h2
     try simp only [bl] at f2
     refine c_skip (then_c (c_seq (c_region ?_)))
     refine o_pv trivial rfl rfl ?_
     refine' o_and trivial trivial rfl rfl rfl rfl rfl rfl rfl rfl (fun hb93 => ?_) ?_
     rotate_left
     ·
      iterate 2 refine o_pv (wants_some rfl rfl hb93) rfl rfl ?_
      refine' o_or (wants_some rfl rfl hb93) (wants_some rfl rfl hb93) rfl rfl rfl rfl rfl rfl rfl rfl (fun hb96 => ?_) ?_
      rotate_left
      ·
       iterate 2 refine o_pv (wants_some rfl rfl hb96) rfl rfl ?_
       refine o_nil ?_
       exact joins rfl
      refine o_nil ?_
      exact joins rfl
     refine' o_and trivial trivial rfl rfl rfl rfl rfl rfl rfl rfl (fun hb101 => ?_) ?_
     rotate_left
     ·
      iterate 2 refine o_pv (wants_some rfl rfl hb101) rfl rfl ?_
      refine' o_or (wants_some rfl rfl hb101) (wants_some rfl rfl hb101) rfl rfl rfl rfl rfl rfl rfl rfl (fun hb104 => ?_) ?_
      rotate_left
      ·
       iterate 2 refine o_pv (wants_some rfl rfl hb104) rfl rfl ?_
       refine o_nil ?_
       exact joins rfl
      refine o_nil ?_
      exact joins rfl
     refine' o_and trivial trivial rfl rfl rfl rfl rfl rfl rfl rfl (fun hb109 => ?_) ?_
     rotate_left
     ·
      iterate 2 refine o_pv (wants_some rfl rfl hb109) rfl rfl ?_
      refine' o_or (wants_some rfl rfl hb109) (wants_some rfl rfl hb109) rfl rfl rfl rfl rfl rfl rfl rfl (fun hb112 => ?_) ?_
      rotate_left
      ·
       iterate 2 refine o_pv (wants_some rfl rfl hb112) rfl rfl ?_
       refine o_nil ?_
       exact joins rfl
      refine o_nil ?_
      exact joins rfl
     refine o_pv trivial rfl rfl ?_
     refine o_nil (then_c (c_ret ?_))
     refine ret1 rfl rfl ?_
     refine leaf (hx1.trans (hx2.trans (hx3.trans (hx4.trans hx5 (Nat.le_refl _)) (Nat.le_refl _)) (Nat.le_refl _)) (Nat.le_refl _)) (List.nil_sublist _) (congrArg Value.bool ?_)
     have h9 : errOf (evalZ (madeT ins outs ts) xs) ≠ 0 ∨ errOf (evalZ (frontT (madeT ins outs ts) n) xs) = 0 := by
       by_cases h0 : errOf (evalZ (madeT ins outs ts) xs) = 0
       · exact .inr (L1 h0).1
       · exact .inl h0
     rcases L2 with g2 | g2 <;> rcases L3 with g3 | g3 <;> rw [g2, g3] at h9 ⊢ <;> first | rfl | omega
   ·
    refine h_op #[true, true, true, true, true, true, false, false, true, false] rfl rfl ?_
    refine o_alloc trivial rfl Try.zeroValue29 rfl (fun b14 => ?_)
    refine o_nil ?_
    refine h_next (fun _ h => (h.sort (by repeat constructor)).fewer (Hp.Le.refl _)) ?_
    refine h_go [6] (by kernel_rfl) rfl (TWHs.cons ?_ TWHs.nil)
    refine h_op #[true, true, true, true, true, true, true, false, true, false] rfl rfl ?_
    refine o_buildSl trivial rfl Try.underlying27 Try.sizeOf3 Try.zeroValue3 (by decide) (by decide) rfl (by repeat first | exact rfl | constructor) rfl (fun b47 => ?_)
    refine o_nil ?_
    refine h_next (fun _ h => (h.sort (by repeat constructor)).fewer (Hp.Le.refl _)) ?_
    refine' h_take (i := 7) #[true, true, true, true, true, true, true, true, true, false] rfl rfl rfl (by kernel_rfl) (by kernel_rfl) (by kernel_rfl) rfl (qp_then qp_bp) (fun _ h => (h.sort (by repeat constructor)).fewer (Hp.Le.refl _)) ?hh7 ?kk7
    case hh7 =>
     refine o_buildS trivial rfl (bld29) rfl (.cons rfl rfl rfl (by repeat constructor) (.cons rfl (by first | exact (Ws.cells1 (by assumption)).1 | exact (Slc.cells1 (by assumption)).1 | rfl) (by rfl) (by repeat constructor) (.cons rfl (by first | exact (Ws.cells1 (by assumption)).1 | exact (Slc.cells1 (by assumption)).1 | rfl) (by rfl) (by repeat constructor) .nil))) ?_
     refine o_nil ?_
     exact ⟨fun _ _ ha _ => ha⟩
    refine h_go [9] (by kernel_rfl) rfl (TWHs.cons ?_ TWHs.nil)
    refine h_op #[true, true, true, true, true, true, true, true, true, true] rfl rfl ?_
    refine o_store trivial rfl rfl rfl Try.sizeOf29 rfl (by first | rfl | (repeat' (first | exact rfl | exact one_nil | refine one_cons ?_ ?_ | exact (Ws.cells1 (by assumption)).2 | exact (Slc.cells1 (by assumption)).2))) (by repeat constructor) (by repeat constructor) ?_
    refine o_nil ?_
    refine h_next (fun _ h => (h.sort (by repeat constructor)).fewer (Hp.Le.refl _)) ?_
    refine h_end (by kernel_rfl) ?_
    refine then_c (c_seq ?_)
    refine c_sealB (b := b47) (by repeat constructor) (fun I2 hx2 hb47 => ?_)
    have htA := htv.le hx2.le
    have htU : TapeV I2 (slcCut vo 0 n 7) (.slice (some ⟨b47, 0, none⟩) 1 1) (frontT (madeT ins outs ts) n) (os.take n) := by
      refine ⟨?_, fun o ho => htA.ok o (List.mem_of_mem_take ho), ?_, ?_⟩
      · have h := htA.so.cut (lo := 0) (hi := n) (Nat.zero_le _) (by omega)
        rw [List.drop_zero] at h
        rw [List.map_take]
        exact h
      · show _ = (madeT ins outs ts).ops.take n
        rw [List.map_take, htv.eq]
      · exact Slc.of_box (xss := ics [0]) hb47 (ics_one _) (by unfold maxLen; simp [ics]) (Nat.le_refl _)
    refine c_region ?_
    refine o_fieldAddr (T := 3) (off := 0) trivial rfl Try.underlying29 rfl rfl rfl Try.sizeOf3 rfl rfl ?_
    refine o_load1 trivial rfl Try.isAgg3 rfl (by repeat constructor) (by repeat constructor) ?_
    refine o_pv trivial rfl rfl ?_
    refine o_callI trivial rfl Try.call6 rfl (point_anyZ (1 + ins % 3) vs ss (by omega) (hs.le (hx1.le.trans hx2.le))) ?_
    rintro u3 I3 hx3 hp3
    refine o_pv trivial rfl rfl ?_
    refine o_nil (then_c (c_seq ?_))
    obtain ⟨xs, hpt, hxq, hxv⟩ := RsV.pt hp3
    have hxl : (xs.length : Int) = (madeT ins outs ts).ins := by
      rw [← List.length_map (f := NV.q), hxq, pts_len]
      show (((1 + ins % 3).toNat : Nat) : Int) = 1 + ins % 3
      omega
    have hxb : ∀ x ∈ xs, BdQ 1 x.q := fun x hx => by
      obtain ⟨q, vn, vd, hq, rfl⟩ := hxv x hx
      rw [NV.of_q]; exact pts_bd hs.ok _ q hq
    have hxn : ∀ x ∈ xs, x.n.length ≤ 3000 ∧ x.d.length ≤ 3000 := fun x hx => by
      obtain ⟨q, vn, vd, hq, rfl⟩ := hxv x hx
      exact few_const (pts_bd hs.ok _ q hq)
    have hbT := (tape_bd hTf hxb hxn).2
    have hbU := (tape_bd (t := frontT (madeT ins outs ts) n) (fun o ho => hTf o (List.mem_of_mem_take ho)) hxb hxn).2
    obtain ⟨L1, L2, L3⟩ := front_law (n := n) (by omega) hTw hxl
    refine c_region ?_
    refine o_loadA trivial rfl Try.isAgg29 Try.sizeOf29 rfl (by repeat constructor) (by repeat constructor) ?_
    refine o_pv trivial rfl rfl ?_
    refine o_callI trivial rfl Try.call7 rfl (exR_fun (eval_any (madeT ins outs ts) vo vu _ os xs (htA.le hx3.le) hpt hbT) evalZ_ne) ?_
    rintro _ I4 hx4 ⟨u4, rfl, r4⟩
    iterate 5 refine o_pv trivial rfl rfl ?_
    refine o_nil (then_c (c_seq (c_region ?_)))
    refine o_loadA trivial rfl Try.isAgg29 Try.sizeOf29 rfl (by repeat constructor) (by repeat constructor) ?_
    refine o_pv trivial rfl rfl ?_
    refine o_callI trivial rfl Try.call7 rfl (exR_fun (eval_any (frontT (madeT ins outs ts) n) _ _ _ _ xs (htU.le (hx3.le.trans hx4.le)) (hpt.le hx4.le) hbU) evalZ_ne) ?_
    rintro _ I5 hx5 ⟨u5, rfl, r5⟩
    iterate 5 refine o_pv trivial rfl rfl ?_
    refine o_nil (then_c (c_seq (c_seq ?_)))
    obtain ⟨rs4, q1, q2, q3⟩ := (r4.le hx5.le).out
    obtain ⟨rs5, q4, q5, q6⟩ := r5.out
    have hl4 := rcs_len rs4
    have hl5 := rcs_len rs5
    have hlaw : errOf (evalZ (madeT ins outs ts) xs) = 0 → rs5.length = xs.length + n ∧ rs5.length ≤ rs4.length ∧ rs5.map RV.q = (rs4.map RV.q).take rs5.length := fun h0 => by
      obtain ⟨m1, m2, m3⟩ := L1 h0
      rw [← q3, ← q6] at m2
      rw [← q3, List.length_map] at m3
      have m4 := congrArg List.length m2
      rw [List.length_map, List.length_take, List.length_map] at m4
      have m5 : rs5.length = xs.length + n := by omega
      rw [m5]
      exact ⟨rfl, by omega, m2⟩
    have hxl2 : (xs.length : Int) = 1 + ins % 3 := hxl
    refine c_region ?_
    iterate 2 refine o_pv trivial rfl rfl ?_
    refine' o_and trivial trivial rfl rfl rfl rfl rfl rfl rfl rfl (fun hb67 => ?_) ?_
    rotate_left
    ·
     have fb67 := hb67
     try simp only [bl] at fb67
     have h0 : errOf (evalZ (madeT ins outs ts) xs) = 0 := by simpa using hb67
     obtain ⟨y1, y2, y3⟩ := hlaw h0
     refine o_pv (wants_some rfl rfl hb67) rfl rfl ?_
     refine o_lenSlc (wants_some rfl rfl hb67) rfl Try.underlying31 rfl (q1) ?_
     refine o_pv (wants_some rfl rfl hb67) rfl rfl ?_
     refine o_lenSlc (wants_some rfl rfl hb67) rfl Try.underlying31 rfl (q4) ?_
     refine o_pv (wants_some rfl rfl hb67) rfl rfl ?_
     refine' o_or (wants_some rfl rfl hb67) (wants_some rfl rfl hb67) rfl rfl rfl rfl rfl rfl rfl rfl (fun hb73 => ?_) ?_
     rotate_left
     ·
      have fb73 := hb73
      try simp only [bl] at fb73
      refine o_pv (wants_some rfl rfl hb73) rfl rfl ?_
      refine o_lenSlc (wants_some rfl rfl hb73) rfl Try.underlying31 rfl (q4) ?_
      refine o_fieldAddr (T := 3) (off := 0) (wants_some rfl rfl hb73) rfl Try.underlying29 rfl rfl rfl Try.sizeOf3 rfl rfl ?_
      refine o_load1 (wants_some rfl rfl hb73) rfl Try.isAgg3 rfl (by repeat constructor) (by repeat constructor) ?_
      refine o_pv (wants_some rfl rfl hb73) rfl rfl ?_
      first | (refine o_add (wants_some rfl rfl hb73) rfl rfl rfl ?_ ?_; (omega)) | refine o_pv (wants_some rfl rfl hb73) rfl rfl ?_
      refine o_pv (wants_some rfl rfl hb73) rfl rfl ?_
      refine o_nil ?_
      exact joins rfl
     refine' o_or (wants_some rfl rfl hb67) (wants_some rfl rfl hb67) rfl rfl rfl rfl rfl rfl rfl rfl (fun hb82 => ?_) ?_
     rotate_left
     ·
      have fb82 := hb82
      try simp only [bl] at fb82
      iterate 2 refine o_pv (wants_some rfl rfl hb82) rfl rfl ?_
      refine o_lenSlc (wants_some rfl rfl hb82) rfl Try.underlying31 rfl (q4) ?_
      refine o_cutHi (wants_some rfl rfl hb82) rfl Try.underlying31 Try.sizeOf40 rfl (q1) rfl (by omega) ?_
      refine o_pv (wants_some rfl rfl hb82) rfl rfl ?_
      rw [show ((rcs rs5).length : Int).toNat = rs5.length by rw [rcs_len]; rfl]
      refine o_callQ (wants_some rfl rfl hb82) rfl Try.call8 rfl (rAll_any _ _ _ _ (RsV.cut (k := rs5.length) q1 q2 y2) ⟨rs5, q4, q5, rfl⟩) ?_
      refine o_pv (wants_some rfl rfl hb82) rfl rfl ?_
      refine o_nil ?_
      exact joins rfl
     refine o_nil ?_
     exact joins rfl
    refine o_nil (then_c ?_)
    refine c_cond rfl (fun h2 => ?_) (fun h2 => ?_)
    ·
     have f2 := h2
     try simp only [bl] at f2
     exfalso
     obtain ⟨y1, y2, y3⟩ := hlaw f2.1
     rcases f2.2 with (g | g) | g
     · omega
     · omega
     · exact g y3.symm
    ·
     have f2 := h2
     try simp only [bl] at f2
     refine c_skip (then_c (c_seq (c_region ?_)))
     refine o_pv trivial rfl rfl ?_
     refine' o_and trivial trivial rfl rfl rfl rfl rfl rfl rfl rfl (fun hb93 => ?_) ?_
     rotate_left
     ·
      iterate 2 refine o_pv (wants_some rfl rfl hb93) rfl rfl ?_
      refine' o_or (wants_some rfl rfl hb93) (wants_some rfl rfl hb93) rfl rfl rfl rfl rfl rfl rfl rfl (fun hb96 => ?_) ?_
      rotate_left
      ·
       iterate 2 refine o_pv (wants_some rfl rfl hb96) rfl rfl ?_
       refine o_nil ?_
       exact joins rfl
      refine o_nil ?_
      exact joins rfl
     refine' o_and trivial trivial rfl rfl rfl rfl rfl rfl rfl rfl (fun hb101 => ?_) ?_
     rotate_left
     ·
      iterate 2 refine o_pv (wants_some rfl rfl hb101) rfl rfl ?_
      refine' o_or (wants_some rfl rfl hb101) (wants_some rfl rfl hb101) rfl rfl rfl rfl rfl rfl rfl rfl (fun hb104 => ?_) ?_
      rotate_left
      ·
       iterate 2 refine o_pv (wants_some rfl rfl hb104) rfl rfl ?_
       refine o_nil ?_
       exact joins rfl
      refine o_nil ?_
      exact joins rfl
     refine' o_and trivial trivial rfl rfl rfl rfl rfl rfl rfl rfl (fun hb109 => ?_) ?_
     rotate_left
     ·
      iterate 2 refine o_pv (wants_some rfl rfl hb109) rfl rfl ?_
      refine' o_or (wants_some rfl rfl hb109) (wants_some rfl rfl hb109) rfl rfl rfl rfl rfl rfl rfl rfl (fun hb112 => ?_) ?_
      rotate_left
      ·
       iterate 2 refine o_pv (wants_some rfl rfl hb112) rfl rfl ?_
       refine o_nil ?_
       exact joins rfl
      refine o_nil ?_
      exact joins rfl
     refine o_pv trivial rfl rfl ?_
     refine o_nil (then_c (c_ret ?_))
     refine ret1 rfl rfl ?_
     refine leaf (hx1.trans (hx2.trans (hx3.trans (hx4.trans hx5 (Nat.le_refl _)) (Nat.le_refl _)) (Nat.le_refl _)) (Nat.le_refl _)) (List.nil_sublist _) (congrArg Value.bool ?_)
     have h9 : errOf (evalZ (madeT ins outs ts) xs) ≠ 0 ∨ errOf (evalZ (frontT (madeT ins outs ts) n) xs) = 0 := by
       by_cases h0 : errOf (evalZ (madeT ins outs ts) xs) = 0
       · exact .inr (L1 h0).1
       · exact .inl h0
     rcases L2 with g2 | g2 <;> rcases L3 with g3 | g3 <;> rw [g2, g3] at h9 ⊢ <;> first | rfl | omega
end Go.Proofs.Ytjgbjaaekknenaa
/-
  ValueFront: whatever the input, the law answers true, and its arguments read as they did. Conditions: the row's own, no more.
-/
namespace Go.Proofs.Ytjgbjaaekknenaa.valueFront
open Go Go.Tw Go.ChangeMaps Go.ChangeShapes Go.WideShapes Go.ChangeAt Go.RowKit
set_option linter.unusedVariables false
set_option linter.unusedSimpArgs false
set_option linter.unnecessarySimpa false
set_option maxHeartbeats 1000000
set_option maxRecDepth 100000 in
theorem contract (H : Type) (enc : TypeId × Value → H) (W : World) (base : Nat) (args : Array Value) (ds gs : List (DataW H)) (before : List MemPlace)
    (hval : ∀ (j : Nat) t v, Try.f3.params[j]? = some t → args[j]? = some v → Value.okWide Try.prog W .any base t v)
    (hW : DataW.Whole enc Try.prog Try.f3.params.toList Rows.valueFrontSpec.vars false W args.toList ds gs before) :
    Calls Try.prog 3 args W fun e W' => ∃ v, e = .returned v ∧ Rows.valueFrontSpec.post enc Try.prog Try.f3 false true false false W args v W' := by
  have hW' := hW
  obtain ⟨p, q, hA0, hV, rfl, hfz, hnd⟩ := hW
  have hA : DataW.TrodAll enc Try.prog W 0 (fun _ => true) true Try.f3.params.toList args.toList ds p := hA0
  rw [Try.params3] at hA hval
  obtain ⟨rfl, rfl⟩ := trodVars_none hV
  obtain ⟨v0, vs0, d0, ds0, p0, q0, hargs, rfl, rfl, k0, r0⟩ := trodAll_cons hA
  obtain ⟨v1, vs1, d1, ds1, p1, q1, rfl, rfl, rfl, k1, r1⟩ := trodAll_cons r0
  obtain ⟨v2, vs2, d2, ds2, p2, q2, rfl, rfl, rfl, k2, r2⟩ := trodAll_cons r1
  obtain ⟨v3, vs3, d3, ds3, p3, q3, rfl, rfl, rfl, k3, r3⟩ := trodAll_cons r2
  obtain ⟨v4, vs4, d4, ds4, p4, q4, rfl, rfl, rfl, k4, r4⟩ := trodAll_cons r3
  obtain ⟨rfl, rfl, rfl⟩ := trodAll_nil r4
  obtain rfl : args = #[v0, v1, v2, v3, v4] := by cases args; simp_all
  obtain ⟨x0, rfl, rfl, rfl, hx0⟩ := open_int Try.underlying5 (hval 0 5 v0 rfl rfl) k0
  have hb0 := bounds_u8 hx0
  obtain ⟨y1, h1⟩ := open_By (hval 1 22 v1 rfl rfl) k1
  obtain ⟨y2, h2⟩ := open_Tn (hval 2 23 v2 rfl rfl) k2
  obtain ⟨x3, rfl, rfl, rfl, hx3⟩ := open_int Try.underlying5 (hval 3 5 v3 rfl rfl) k3
  have hb3 := bounds_u8 hx3
  obtain ⟨y4, h4⟩ := open_Sm (hval 4 24 v4 rfl rfl) k4
  refine (calls_of_fun (vs := [.int .u8 x0, v1, v2, .int .u8 x3, v4]) (ValueFront_any x0 x3 v1 v2 v4 y1 y2 y4 hb0 hb3 h1 h2 h4)).mono fun e W' ⟨he, hb⟩ => ?_
  subst he
  exact ⟨_, rfl, post_true hW' rfl rfl rfl Try.underlying4 laidOut (by rw [Try.params3]; kernel_rfl) hb⟩
theorem laid_met (os : Os) : laidMet Try.prog Rows.valueFrontRow.laid ((laidWorld os).forCall (fun _ _ => 0) ⟨#[], #[.int .u8 0, .slice none 0 0, .slice none 0 0, .int .u8 0, .slice none 0 0], []⟩).memory :=
  laidMet_of_run' 8 (by kernel_rfl) (by kernel_rfl)
theorem reads (os : Os) {H : Type} (enc : TypeId × Value → H) : ∃ places, DataW.whole enc Try.prog ((laidWorld os).forCall (fun _ _ => 0) ⟨#[], #[.int .u8 0, .slice none 0 0, .slice none 0 0, .int .u8 0, .slice none 0 0], []⟩).memory Try.f3.params.toList Rows.valueFrontSpec.vars false (#[.int .u8 0, .slice none 0 0, .slice none 0 0, .int .u8 0, .slice none 0 0] : Array Value).toList 8 = some ([.lit (.int .u8 0), .nil, .nil, .lit (.int .u8 0), .nil], [], places) :=
  ⟨[], by kernel_rfl⟩
set_option maxRecDepth 100000 in
theorem lifted (os : Os) (started : os.Started) (H : Type) (enc : TypeId × Value → H) (F : Stop.Interp) :
    ReturnsInHanded {} Try.checked os 3 .any ((OpenSpec.ofChange Rows.valueFrontSpec).preRow enc Try.prog Try.f3 Rows.valueFrontRow.domain false Rows.valueFrontRow.laid) (((OpenSpec.ofChange Rows.valueFrontSpec).at F).post enc Try.prog Try.f3 false true false false) := by
  obtain ⟨places, hx⟩ := reads os enc
  refine returnsInHanded_of_row (C := Try.checked) (s := OpenSpec.ofChange Rows.valueFrontSpec) own started (by kernel_rfl) Try.func3
    (witness_row_at (enc := enc) (C := Try.checked) false (laidWorld os) #[.int .u8 0, .slice none 0 0, .slice none 0 0, .int .u8 0, .slice none 0 0] rfl (by kernel_rfl) (by kernel_rfl) (by kernel_rfl)
      (OpenSpec.preRow_of_cond 8 hx (by kernel_rfl) (fun k hk => by cases hk) (by kernel_rfl) (laid_met os))) ?_
  intro W base args ds gs before hval hW _ _ _ _ _ _
  exact contract H enc W base args ds gs before hval hW
theorem said : Rows.ValueFrontSaid :=
  OpenClaim.holds_of_cond 3 Try.f3 rfl rfl rfl rfl rfl rfl rfl ⟨rfl, rfl, rfl, rfl, rfl⟩ rfl rfl rfl rfl rfl (by kernel_rfl) Try.func3 (by kernel_rfl)
    (of_decide_eq_true (by kernel_rfl)) (by unfold Func.isWrapper; first | (rw [if_pos (by decide +kernel)]; kernel_rfl) | (rw [if_neg (by decide +kernel)]; exact ⟨rfl, rfl⟩))
    (fun os started H enc _ F => by rw [OpenClaim.pre_eq_preRow]; exact lifted os started H enc F)
end Go.Proofs.Ytjgbjaaekknenaa.valueFront
namespace Go.Proofs.Ytjgbjaaekknenaa
/-- The given statement. -/
theorem valueFront_holds : Rows.ValueFrontSaid := valueFront.said
#print axioms valueFront_holds
end Go.Proofs.Ytjgbjaaekknenaa
