/-
  TreeParses, part 6: the texts RefH, RefH2, Law11 as one.
-/
import Derived.Test.YtmgpifkekofacaaGreatDoorQTreeParsesE
set_option linter.unusedVariables false
set_option linter.unusedSimpArgs false
set_option linter.unnecessarySimpa false
set_option maxHeartbeats 1000000
namespace Go.Proofs.YtmgpifkekofacaaGreatDoor
open Go Go.Tw
theorem rrTall_any (va : Value) (ns : List NodeV) {I : Hp} (hsa : Slc I 8 va (nds ns)) (hok : ∀ o ∈ ns, o.ok I) (hlow : LowN (ns.map NodeV.c)) (hn : ns.length ≤ 100000) : ∀ i : Nat, i < ns.length → Fun Tryz.prog 52 [va, .int .i64 (i : Nat)] I [] (fun v _ _ => v = .int .i64 ((tallZ (ns.map NodeV.c) (ns.length) (i : Int) : Nat) : Int)) := by
  intro i
  have hln := nds_len ns
  induction i using Nat.strongRecOn with
  | ind i ih =>
    intro hi
    obtain ⟨o, ho⟩ : ∃ o, ns[i]? = some o := ⟨ns[i]'hi, List.getElem?_eq_getElem hi⟩
    have hoc : (ns.map NodeV.c)[i]? = some o.c := by rw [List.getElem?_map, ho]; rfl
    have hom := List.mem_of_getElem? ho
    have hw1 : Ws I o.vn o.c.n := (hok o hom).1
    have hw2 : Ws I o.vd o.c.d := (hok o hom).2
    have hlo := hlow i o.c hoc
    obtain ⟨f, hf⟩ : ∃ f, ns.length = f + 1 := ⟨ns.length - 1, by omega⟩
    have htz : tallZ (ns.map NodeV.c) ns.length (i : Int) = if o.c.kind ≤ 1 then 1 else if o.c.kind ≤ 5 then 1 + max (tallZ (ns.map NodeV.c) f o.c.a) (tallZ (ns.map NodeV.c) f o.c.b) else 1 + tallZ (ns.map NodeV.c) f o.c.a := by
      rw [hf]
      conv => lhs; unfold tallZ
      rw [Int.toNat_natCast, hoc]
    have hta : 1 < o.c.kind → tallZ (ns.map NodeV.c) f o.c.a = tallZ (ns.map NodeV.c) ns.length o.c.a := fun hk => by
      obtain ⟨a1, a2, _⟩ := hlo hk
      have ea : o.c.a = (o.c.a.toNat : Int) := by omega
      rw [ea]
      exact tall_fuel hlow _ _ _ (by omega) (by omega)
    have htb : 1 < o.c.kind → o.c.kind ≤ 5 → tallZ (ns.map NodeV.c) f o.c.b = tallZ (ns.map NodeV.c) ns.length o.c.b := fun hk h5 => by
      obtain ⟨a1, a2, a3⟩ := hlo hk
      obtain ⟨b1, b2⟩ := a3 h5
      have eb : o.c.b = (o.c.b.toNat : Int) := by omega
      rw [eb]
      exact tall_fuel hlow _ _ _ (by omega) (by omega)
    have hca : 1 < o.c.kind → (Fun Tryz.prog 52 [va, .int .i64 o.c.a] I [] (fun v _ _ => v = .int .i64 ((tallZ (ns.map NodeV.c) (ns.length) o.c.a : Nat) : Int))) ∧ tallZ (ns.map NodeV.c) (ns.length) o.c.a ≤ 100000 := fun hk => by
      obtain ⟨a1, a2, _⟩ := hlo hk
      have ea : o.c.a = (o.c.a.toNat : Int) := by omega
      rw [ea]
      exact ⟨ih _ (by omega) (by omega), by have := tall_le hlow o.c.a.toNat ns.length (by omega); omega⟩
    have hcb : 1 < o.c.kind → o.c.kind ≤ 5 → (Fun Tryz.prog 52 [va, .int .i64 o.c.b] I [] (fun v _ _ => v = .int .i64 ((tallZ (ns.map NodeV.c) (ns.length) o.c.b : Nat) : Int))) ∧ tallZ (ns.map NodeV.c) (ns.length) o.c.b ≤ 100000 := fun hk h5 => by
      obtain ⟨a1, a2, a3⟩ := hlo hk
      obtain ⟨b1, b2⟩ := a3 h5
      have eb : o.c.b = (o.c.b.toNat : Int) := by omega
      rw [eb]
      exact ⟨ih _ (by omega) (by omega), by have := tall_le hlow o.c.b.toNat ns.length (by omega); omega⟩
    intro w hw
    refine enter2 _ Tryz.func52 rfl Tryz.ntmps52 rfl ?_ hw
    refine cS (cR ?_)
    refine oV ?_
    refine oN (tC (cS (cR ?_)))
    iterate 2 refine oV ?_
    refine o_elem trivial rfl Tryz.underlying25 Tryz.sizeOf44 rfl (hsa) rfl (by omega) ?_
    refine o_loadAI trivial rfl Tryz.isAgg44 Tryz.sizeOf44 rfl rfl (nds_at hsa ho) ?_
    refine o_alloc trivial rfl Tryz.zeroValue44 rfl (fun b5 => ?_)
    refine oS Tryz.sizeOf44 ?_
    refine oN (tC (cS (cB (cS (cR ?_)))))
    refine oF 0 Tryz.underlying44 Tryz.sizeOf3 ?_
    refine oL Tryz.isAgg3 ?_
    iterate 2 refine oV ?_
    refine oN (tC ?_)
    refine cC rfl (fun h1 => ?_) (fun h1 => ?_)
    ·
     have f1 := h1
     try simp only [bl] at f1
     refine cS (cR ?_)
     refine oV ?_
     refine oN (tC (cT (blk_r (tR ?_))))
     refine ret1 rfl rfl ?_
     refine leaf0 (congrArg (Value.int .i64) ?_); rw [htz, if_pos (by omega)]; rfl
    have f1 := h1
    try simp only [bl] at f1
    obtain ⟨ca, cal⟩ := hca (by omega)
    refine cS (cR ?_)
    refine oF 0 Tryz.underlying44 Tryz.sizeOf3 ?_
    refine oL Tryz.isAgg3 ?_
    iterate 2 refine oV ?_
    refine oN (tC ?_)
    refine cC rfl (fun h2 => ?_) (fun h2 => ?_)
    ·
     have f2 := h2
     try simp only [bl] at f2
     obtain ⟨cb, cbl⟩ := hcb (by omega) (by omega)
     refine cS ?_
     refine c_quiet (by kernel_rfl) (by kernel_rfl) (fun _ h => h.drawn) ?_
     refine oV ?_
     refine oF 1 Tryz.underlying44 Tryz.sizeOf3 ?_
     refine oL Tryz.isAgg3 ?_
     refine o_callQ trivial rfl Tryz.call52 rfl ca ?_
     refine oV ?_
     refine oF 2 Tryz.underlying44 Tryz.sizeOf3 ?_
     refine oL Tryz.isAgg3 ?_
     refine o_callQ trivial rfl Tryz.call52 rfl cb ?_
     refine o_max2 trivial rfl rfl rfl ?_
     first | (refine o_add trivial rfl rfl rfl ?_ ?_; (omega)) | refine oV ?_
     refine oV ?_
     refine oN (tC (cT (blk_r (tR ?_))))
     refine ret1 rfl rfl ?_
     refine leaf0 (congrArg (Value.int .i64) ?_); rw [htz, if_neg (by omega), if_pos (by omega), hta (by omega), htb (by omega) (by omega)]; omega
    have f2 := h2
    try simp only [bl] at f2
    refine cK (blk_n (tC (cS (cR ?_))))
    refine oV ?_
    refine oF 1 Tryz.underlying44 Tryz.sizeOf3 ?_
    refine oL Tryz.isAgg3 ?_
    refine o_callQ trivial rfl Tryz.call52 rfl ca ?_
    first | (refine o_add trivial rfl rfl rfl ?_ ?_; (omega)) | refine oV ?_
    refine oV ?_
    refine oN (tC (cT ?_))
    refine ret1 rfl rfl ?_
    refine leaf0 (congrArg (Value.int .i64) ?_); rw [htz, if_neg (by omega), if_neg (by omega), hta (by omega)]; omega
theorem rrHeights_any (vi vl vo va : Value) (p : ProgC) (ns : List NodeV) {I : Hp} (hp : ProgV I vi vl vo va p ns) (hlow : LowN p.all) (hn : ns.length ≤ 100000) :
    Fun Tryz.prog 20 [.agg #[vi, vl, vo, va]] I [] (fun v I' _ => Slc I' 1 v (nss (heightsZ p.all))) := by
  have hsi := hp.si
  have hsl := hp.sl
  have hso := hp.so
  have hsa := hp.sa
  have hla := nds_len ns
  have hal : p.all.length = ns.length := by rw [← hp.eq, List.length_map]
  rw [← hp.eq] at hlow
  have hhz := heightsZ_len p.all
  have hget : ∀ i, i < ns.length → (heightsZ p.all)[i]? = some (tallZ (ns.map NodeV.c) ns.length (i : Int)) := fun i hi => by
    unfold heightsZ
    rw [List.getElem?_map, List.getElem?_range (by omega), hp.eq, hal]; rfl
  intro w hw
  refine enter1 _ Tryz.func20 rfl Tryz.ntmps20 rfl ?_ hw
  refine cS (cR ?_)
  refine o_box trivial rfl rfl rfl (fun b1 => ?_)
  refine oV ?_
  refine oN (tC (cS (cR ?_)))
  refine oV ?_
  refine oN (tC (cS (cS (cR ?_))))
  refine oV ?_
  refine oN (tC (cB ?_))
  refine c_loop (ι := Nat × Value) [1] (.cons rfl .nil) (fun x => ns.length - x.1) (fun x E0 => (3, x.2) :: (4, .int .i64 (x.1 : Int)) :: E0) (fun x => St w [] I [.row x.2 3 1 x.1 (nvs ((heightsZ p.all).take x.1)), .box b1 (.cells #[vi, vl, vo, va] 27 (0, 0))]) (fun x => x.1 ≤ ns.length) ((0, .slice none 0 0)) (sC rfl (sC rfl (sC rfl sN))) (fun _ h => (h.nilRow _ _).sort (by repeat constructor)) (Nat.zero_le _) ?_
  rintro ⟨i, uo⟩ hi
  try dsimp only
  simp only at hi
  refine cS (cS (cR ?_))
  refine oV ?_
  refine oF 3 Tryz.underlying27 Tryz.sizeOf25 ?_
  refine oL Tryz.isAgg25 ?_
  refine o_lenSlc trivial rfl Tryz.underlying25 rfl (hsa) ?_
  refine oV ?_
  refine oN (tC ?_)
  refine cC rfl (fun h1 => ?_) (fun h1 => ?_)
  ·
   have f1 := h1
   try simp only [bl] at f1
   have hg := hget i (by omega)
   refine cK (tC (cS (cB (cR ?_))))
   refine oV ?_
   refine oF 3 Tryz.underlying27 Tryz.sizeOf25 ?_
   refine oL Tryz.isAgg25 ?_
   refine oV ?_
   refine o_callQ trivial rfl Tryz.call52 rfl (rrTall_any va ns hsa hp.ok hlow hn i (by omega)) ?_
   refine o_buildSl trivial rfl Tryz.underlying37 Tryz.sizeOf3 Tryz.zeroValue3 (by decide) (by decide) rfl (by repeat first | exact rfl | constructor) rfl (fun b17 => ?_)
   refine o_appendBox trivial rfl Tryz.underlying37 (elem3) (by decide) rfl rfl (fun v' => (by repeat constructor)) (by repeat constructor) rfl (by first | rfl | decide) (by first | omega | (unfold maxLen; omega)) (by omega) (fun v18 => ?_)
   refine oV ?_
   refine oN (blk_n (tC (cR ?_)))
   refine oV ?_
   first | (refine o_add trivial rfl rfl rfl ?_ ?_; (omega)) | refine oV ?_
   refine oV ?_
   refine oN ?_
   exact again (i + 1, v18) (sC rfl (sC rfl (sC rfl sN))) (fun _ h => by rw [List.take_add_one, hg, show nvs ((heightsZ p.all).take i ++ (some (tallZ (ns.map NodeV.c) ns.length (i : Int))).toList) = nvs ((heightsZ p.all).take i) ++ [.int .i64 ((tallZ (ns.map NodeV.c) ns.length (i : Int) : Nat) : Int)] by simp [nvs]]; exact h.sort (by repeat constructor)) (by show ns.length - (i + 1) < ns.length - i; omega) (by show i + 1 ≤ _; omega)
  have f1 := h1
  try simp only [bl] at f1
  refine c_exit (then_x (then_x (blk_eq rfl (tC (cS (cR ?_))))))
  iterate 2 refine oV ?_
  refine oN (tC (cT ?_))
  refine ret1 rfl rfl ?_
  have hin : i = ns.length := by omega
  subst hin
  exact fun w' hw' => leafRow (e := 3) (size := 1) (nn := ns.length) (u := uo) (xss := nss (heightsZ p.all)) (by rw [nss_len, hhz, hal]) (nss_one _) (by unfold maxLen; omega) (fun I' hl hs' => hs') w' (by rw [nss_flat]; rw [List.take_of_length_le (by omega)] at hw'; exact hw')
theorem rrLong_any (vi vl vo va : Value) (p : ProgC) (ns : List NodeV) {I : Hp} (hp : ProgV I vi vl vo va p ns) (hlow : LowN p.all) (hn : ns.length ≤ 100000) :
    Fun Tryz.prog 45 [.agg #[vi, vl, vo, va]] I [] (fun v _ _ => v = .bool (longZ p)) := by
  have hsi := hp.si
  have hsl := hp.sl
  have hso := hp.so
  have hsa := hp.sa
  have hli := scs_len p.ins
  have hlo := scs_len p.outs
  have hll : (p.lets.map LetC.cells).length = p.lets.length := List.length_map _
  have hla := nds_len ns
  have hal : p.all.length = ns.length := by rw [← hp.eq, List.length_map]
  have hhz := heightsZ_len p.all
  have hnl := nss_len (heightsZ p.all)
  intro w hw
  refine enter1 _ Tryz.func45 rfl Tryz.ntmps45 rfl ?_ hw
  refine cS (cR ?_)
  refine o_box trivial rfl rfl rfl (fun b1 => ?_)
  refine oV ?_
  refine oN (tC (cS (cS (cR ?_))))
  refine oF 3 Tryz.underlying27 Tryz.sizeOf25 ?_
  refine oL Tryz.isAgg25 ?_
  refine o_lenSlc trivial rfl Tryz.underlying25 rfl (hsa) ?_
  refine oV ?_
  refine' o_or trivial trivial rfl rfl rfl rfl rfl rfl rfl rfl (fun hb9 => ?_) ?_
  rotate_left
  ·
   have fb9 := hb9
   try simp only [bl] at fb9
   refine oX (T := 23) (off := 0) (wS rfl rfl hb9) rfl Tryz.underlying27 rfl rfl rfl Tryz.sizeOf23 rfl rfl ?_
   refine o_load1 (wS rfl rfl hb9) rfl Tryz.isAgg23 rfl (by repeat constructor) (by repeat constructor) ?_
   refine o_lenSlc (wS rfl rfl hb9) rfl Tryz.underlying23 rfl (hsi) ?_
   refine o_pv (wS rfl rfl hb9) rfl rfl ?_
   refine oN ?_
   exact joins rfl
  refine' o_or trivial trivial rfl rfl rfl rfl rfl rfl rfl rfl (fun hb15 => ?_) ?_
  rotate_left
  ·
   have fb15 := hb15
   try simp only [bl] at fb15
   refine oX (T := 24) (off := 1) (wS rfl rfl hb15) rfl Tryz.underlying27 rfl rfl rfl Tryz.sizeOf24 rfl rfl ?_
   refine o_load1 (wS rfl rfl hb15) rfl Tryz.isAgg24 rfl (by repeat constructor) (by repeat constructor) ?_
   refine o_lenSlc (wS rfl rfl hb15) rfl Tryz.underlying24 rfl (hsl) ?_
   refine o_pv (wS rfl rfl hb15) rfl rfl ?_
   refine oN ?_
   exact joins rfl
  refine' o_or trivial trivial rfl rfl rfl rfl rfl rfl rfl rfl (fun hb21 => ?_) ?_
  rotate_left
  ·
   have fb21 := hb21
   try simp only [bl] at fb21
   refine oX (T := 23) (off := 2) (wS rfl rfl hb21) rfl Tryz.underlying27 rfl rfl rfl Tryz.sizeOf23 rfl rfl ?_
   refine o_load1 (wS rfl rfl hb21) rfl Tryz.isAgg23 rfl (by repeat constructor) (by repeat constructor) ?_
   refine o_lenSlc (wS rfl rfl hb21) rfl Tryz.underlying23 rfl (hso) ?_
   refine o_pv (wS rfl rfl hb21) rfl rfl ?_
   refine oN ?_
   exact joins rfl
  refine oN (tC ?_)
  refine cC rfl (fun h1 => ?_) (fun h1 => ?_)
  ·
   have f1 := h1
   try simp only [bl] at f1
   refine cS (cR ?_)
   refine oV ?_
   refine oN (tC (cT (tR ?_)))
   refine ret1 rfl rfl ?_
   refine leaf0 (congrArg Value.bool ?_)
   unfold longZ
   simp at h1
   simp
   omega
  have f1 := h1
  try simp only [bl] at f1
  have hno : ¬ 400 < p.all.length ∧ ¬ 40 < p.ins.length ∧ ¬ 40 < p.lets.length ∧ ¬ 40 < p.outs.length := by
    simp at h1
    omega
  refine cK (tC (cS (cR ?_)))
  refine oA Tryz.isAgg27 Tryz.sizeOf27 ?_
  refine o_callI trivial rfl Tryz.call20 rfl (rrHeights_any vi vl vo va p ns hp hlow hn) ?_
  rintro v28 I2 hx2 hs2
  refine oV ?_
  refine oN (tC (cS (cS (cR ?_))))
  refine oV ?_
  refine oN (tC (cB ?_))
  refine c_loop (ι := Nat) [3] (.cons rfl .nil) (fun x => (heightsZ p.all).length - x) (fun x E0 => (4, .int .i64 (x : Int)) :: E0) (fun x => St w [] I2 [.box b1 (.cells #[vi, vl, vo, va] 27 (0, 0))]) (fun x => x ≤ (heightsZ p.all).length ∧ (heightsZ p.all).any (fun h => decide (60 < h)) = ((heightsZ p.all).drop x).any (fun h => decide (60 < h))) (0) (sC rfl (sC rfl sN)) (fun _ h => h) (⟨Nat.zero_le _, rfl⟩) ?_
  rintro i ⟨hi, hF⟩
  try dsimp only
  refine cS (cS (cR ?_))
  iterate 2 refine oV ?_
  refine o_lenSlc trivial rfl Tryz.underlying37 rfl (hs2) ?_
  refine oV ?_
  refine oN (tC ?_)
  refine cC rfl (fun h2 => ?_) (fun h2 => ?_)
  ·
   have f2 := h2
   try simp only [bl] at f2
   obtain ⟨k, hk⟩ : ∃ k, (heightsZ p.all)[i]? = some k := ⟨(heightsZ p.all)[i]'(by omega), List.getElem?_eq_getElem (by omega)⟩
   have hst : ((heightsZ p.all).drop i).any (fun h => decide (60 < h)) = (decide (60 < k) || ((heightsZ p.all).drop (i + 1)).any (fun h => decide (60 < h))) := by
     rw [List.drop_eq_getElem_cons (List.getElem?_eq_some_iff.1 hk).1, List.any_cons, (List.getElem?_eq_some_iff.1 hk).2]
   refine cK (tC (cS (cB (cS (cR ?_)))))
   iterate 2 refine oV ?_
   refine o_elem trivial rfl Tryz.underlying37 Tryz.sizeOf3 rfl (hs2) rfl (by omega) ?_
   refine o_load1I trivial rfl Tryz.isAgg3 rfl (nss_at hs2 hk) ?_
   refine oV ?_
   refine oN (tC ?_)
   refine cC rfl (fun h3 => ?_) (fun h3 => ?_)
   ·
    have f3 := h3
    try simp only [bl] at f3
    refine cS (cR ?_)
    refine oV ?_
    refine oN (tC (cT (blk_r (tR (tR (blk_r (tR ?_)))))))
    refine ret1 rfl rfl ?_
    refine leaf hx2 (List.nil_sublist _) (congrArg Value.bool ?_)
    unfold longZ
    rw [hF, hst, decide_eq_true (show 60 < k by omega)]
    simp
   have f3 := h3
   try simp only [bl] at f3
   refine cK (blk_n (tC (cR ?_)))
   refine oV ?_
   first | (refine o_add trivial rfl rfl rfl ?_ ?_; (omega)) | refine oV ?_
   refine oV ?_
   refine oN ?_
   exact again (i + 1) (sC rfl (sC rfl sN)) (fun _ h => h) (by show (heightsZ p.all).length - (i + 1) < (heightsZ p.all).length - i; omega) ⟨by show i + 1 ≤ _; omega, by rw [hF, hst, decide_eq_false (show ¬ 60 < k by omega)]; rfl⟩
  have f2 := h2
  try simp only [bl] at f2
  refine c_exit (then_x (then_x (blk_eq rfl (tC (cS (cR ?_))))))
  refine oV ?_
  refine oN (tC (cT ?_))
  refine ret1 rfl rfl ?_
  refine leaf hx2 (List.nil_sublist _) (congrArg Value.bool ?_)
  rw [List.drop_eq_nil_of_le (by omega)] at hF
  unfold longZ
  rw [hF]
  simp
  omega
theorem tk_place {I : Hp} {v : Value} {L : List Tok} (h : Slc I 4 v (L.map Tok.cells)) {i : Nat} (hi : i < L.length) : ∀ k y, ([.int .i64 (tkAt L i).line, .int .i64 (tkAt L i).col] : List Value)[k]? = some y → I.cell? ⟨slcB v, slcO v + ((i : Nat) : Int).toNat * 4 + 2 + k, none⟩ = some y := fun k y hk => by
  have := tk_cell h hi (k + 2) y (by cases k with
    | zero => exact hk
    | succ k => cases k with
      | zero => exact hk
      | succ k => simp at hk)
  rw [show slcO v + ((i : Nat) : Int).toNat * 4 + 2 + k = slcO v + ((i : Nat) : Int).toNat * 4 + (k + 2) by omega]
  exact this
theorem rrParse_any (s : ByteArray) {I : Hp} (hs : s.size ≤ 1000) : Fun Tryz.prog 16 [.string s] I [] (fun v I' _ => ParseV (parseZ s) v I') := by
  have hfine := lexZ_fine (s := s) (by omega)
  have htf := hfine.few
  have hll : ((lexZ s).toks.map Tok.cells).length = (lexZ s).toks.length := List.length_map _
  intro w hw
  refine enter1 _ Tryz.func16 rfl Tryz.ntmps16 rfl ?_ hw
  refine cS (cR ?_)
  refine o_alloc trivial rfl Tryz.zeroValue27 rfl (fun b2 => ?_)
  refine o_alloc trivial rfl Tryz.zeroValue29 rfl (fun b3 => ?_)
  refine oV ?_
  refine oN (tC (cS (cR ?_)))
  refine oV ?_
  refine o_callI trivial rfl Tryz.call42 rfl (rLex_any s (by omega)) ?_
  rintro _ I1 hx1 ⟨u1, rfl, hs1⟩
  iterate 4 refine oV ?_
  refine o_alloc trivial rfl Tryz.zeroValue29 rfl (fun b6 => ?_)
  refine oV ?_
  refine oS Tryz.sizeOf29 ?_
  refine oV ?_
  refine oN (tC (cS (cS (cR ?_))))
  iterate 2 refine oV ?_
  refine oN (tC ?_)
  refine cC rfl (fun h1 => ?_) (fun h1 => ?_)
  ·
   have f1 := h1
   try simp only [bl] at f1
   have hz : parseZ s = ⟨noP, (lexZ s).line, (lexZ s).col, (lexZ s).err⟩ := by unfold parseZ; rw [if_pos (by simpa using h1)]
   refine cS ?_
   refine h_beginB (m := 6) [.box b6 _] (by repeat constructor) (by kernel_rfl) rfl ?_
   refine qT (i := 0) (qB 6 1) (Hp.Le.refl _) rfl rfl (o_buildS trivial rfl (bld27) rfl .nil qF) ?_
   refine qT (i := 1) (qB 6 3) (Hp.Le.refl _) rfl rfl (oA Tryz.isAgg29 Tryz.sizeOf29 qF) ?_
   refine qT (i := 2) (qB 6 7) (Hp.Le.refl _) rfl rfl (oV qF) ?_
   refine qO (i := 3) (qB 6 15) rfl ?_
   refine oS Tryz.sizeOf27 ?_
   refine qM (Hp.Le.refl _) ?_
   refine qO (i := 4) (qB 6 31) rfl ?_
   refine oS Tryz.sizeOf29 ?_
   refine qM (Hp.Le.refl _) ?_
   refine qT (i := 5) (qB 6 63) (Hp.Le.refl _) rfl rfl (oV qF) ?_
   refine h_end (by kernel_rfl) ?_
   refine tC (cT (tR ?_))
   refine retR rfl (.agg Tryz.isAgg27 Tryz.sizeOf27 rfl (by repeat constructor) rfl (.agg Tryz.isAgg29 Tryz.sizeOf29 rfl (by repeat constructor) rfl (.tmp rfl .nil))) ?_
   refine leaf hx1 (List.nil_sublist _) ?_
   rw [hz]
   exact ⟨N0, N0, N0, N0, [], rfl, ProgV.nil _, fun o ho => by cases ho⟩
  have f1 := h1
  try simp only [bl] at f1
  have hz : parseZ s = parseT s (prgZ (lexZ s).toks) := by unfold parseZ; rw [if_neg (by simpa using h1)]
  have hP := prgZ_is (lexZ s).toks
  generalize prgZ (lexZ s).toks = o at hz hP
  refine cK (tC (cS (cR ?_)))
  refine oV ?_
  refine o_buildS trivial rfl (bld73) rfl (.cons rfl (by first | exact (Ws.cells1 (by assumption)).1 | exact (Slc.cells1 (by assumption)).1 | rfl) (by rfl) (by repeat constructor) .nil) ?_
  refine o_box trivial rfl rfl rfl (fun b23 => ?_)
  refine oV ?_
  refine oN (tC (cS (cR ?_)))
  refine oV ?_
  refine oC trivial rfl Tryz.call43 rfl (rrProgram_any b23 u1 (lexZ s).toks hs1 htf hfine.ok hP) (by repeat constructor) ?_
  rintro _ I2 _ hx2 ⟨i, bad, vi, vl, vo, va, ins, ls, outs, ns, rfl, rfl, hi, hbad, hgood, hok, hb1, hb2, hb3, hb4⟩
  refine oN (tC (cS (cS (cR ?_))))
  iterate 2 refine oV ?_
  refine oF 6 Tryz.underlying73 Tryz.sizeOf4 ?_
  refine oL Tryz.isAgg4 ?_
  refine' o_and trivial trivial rfl rfl rfl rfl rfl rfl rfl rfl (fun hb30 => ?_) ?_
  rotate_left
  ·
   have fb30 := hb30
   try simp only [bl] at fb30
   iterate 2 refine o_pv (wS rfl rfl hb30) rfl rfl ?_
   refine oX (T := 3) (off := 1) (wS rfl rfl hb30) rfl Tryz.underlying73 rfl rfl rfl Tryz.sizeOf3 rfl rfl ?_
   refine o_load1 (wS rfl rfl hb30) rfl Tryz.isAgg3 rfl (by repeat constructor) (by repeat constructor) ?_
   refine o_pv (wS rfl rfl hb30) rfl rfl ?_
   refine o_lenSlc (wS rfl rfl hb30) rfl Tryz.underlying60 rfl (hs1.le hx2.le) ?_
   refine o_pv (wS rfl rfl hb30) rfl rfl ?_
   refine oN ?_
   exact joins rfl
  refine oN (tC ?_)
  refine cC rfl (fun h2 => ?_) (fun h2 => ?_)
  ·
   have f2 := h2
   try simp only [bl] at f2
   have hf : bad = true ∧ i < (lexZ s).toks.length := by
     simp at h2
     exact ⟨h2.1, by omega⟩
   have hbd := hbad hf.1
   have hlt := hf.2
   refine cS ?_
   refine h_beginB (m := 12) [] (by repeat constructor) (by kernel_rfl) rfl ?_
   refine qT (i := 0) (qB 12 1) (Hp.Le.refl _) rfl rfl (o_buildS trivial rfl (bld27) rfl .nil qF) ?_
   refine qT (i := 1) (qB 12 3) (Hp.Le.refl _) rfl rfl (oV qF) ?_
   refine qT (i := 2) (qB 12 7) (Hp.Le.refl _) rfl rfl (oV qF) ?_
   refine qT (i := 3) (qB 12 15) (Hp.Le.refl _) rfl rfl (oV qF) ?_
   refine qT (i := 4) (qB 12 31) (Hp.Le.refl _) rfl rfl (oF 1 Tryz.underlying73 Tryz.sizeOf3 qF) ?_
   refine h_go [5, 9] (by kernel_rfl) rfl (TWHs.cons ?_ (TWHs.cons ?_ TWHs.nil))
   ·
    refine qP (qB 12 63) rfl ?_
    refine oL Tryz.isAgg3 ?_
    refine qM (Hp.Le.refl _) ?_
    refine qT (i := 6) (qB 12 127) (Hp.Le.refl _) rfl rfl (o_elem trivial rfl Tryz.underlying60 Tryz.sizeOf68 rfl (hs1.le hx2.le) rfl (by omega) qF) ?_
    refine qT (i := 7) (qB 12 255) (Hp.Le.refl _) rfl rfl (oF 2 Tryz.underlying68 Tryz.sizeOf29 qF) ?_
    refine qT (i := 8) (qB 12 511) (Hp.Le.refl _) rfl rfl (o_loadAI trivial rfl Tryz.isAgg29 Tryz.sizeOf29 rfl rfl (tk_place (hs1.le hx2.le) hlt) qF) ?_
    refine qO (i := 9) (qB 12 1023) rfl ?_
    refine oS Tryz.sizeOf27 ?_
    refine qM (Hp.Le.refl _) ?_
    refine qO (i := 10) (qB 12 2047) rfl ?_
    refine oS Tryz.sizeOf29 ?_
    refine qM (Hp.Le.refl _) ?_
    refine qT (i := 11) (qB 12 4095) (Hp.Le.refl _) rfl rfl (oV qF) ?_
    refine h_end (by kernel_rfl) ?_
    refine tC (cT (tR ?_))
    refine retR rfl (.agg Tryz.isAgg27 Tryz.sizeOf27 rfl (by repeat constructor) rfl (.agg Tryz.isAgg29 Tryz.sizeOf29 rfl (by repeat constructor) rfl (.tmp rfl .nil))) ?_
    refine leaf (hx1.trans hx2 (Nat.le_refl _)) (List.nil_sublist _) ?_
    rw [hz, hbd, drop_cons hlt]
    exact ⟨N0, N0, N0, N0, [], rfl, ProgV.nil _, fun o ho => by cases ho⟩
   refine qP (qB 12 543) rfl ?_
   refine oS Tryz.sizeOf27 ?_
   refine qM (Hp.Le.refl _) ?_
   refine qO (i := 5) (qB 12 575) rfl ?_
   refine oL Tryz.isAgg3 ?_
   refine qM (Hp.Le.refl _) ?_
   refine qT (i := 6) (qB 12 639) (Hp.Le.refl _) rfl rfl (o_elem trivial rfl Tryz.underlying60 Tryz.sizeOf68 rfl (hs1.le hx2.le) rfl (by omega) qF) ?_
   refine qT (i := 7) (qB 12 767) (Hp.Le.refl _) rfl rfl (oF 2 Tryz.underlying68 Tryz.sizeOf29 qF) ?_
   refine qT (i := 8) (qB 12 1023) (Hp.Le.refl _) rfl rfl (o_loadAI trivial rfl Tryz.isAgg29 Tryz.sizeOf29 rfl rfl (tk_place (hs1.le hx2.le) hlt) qF) ?_
   refine qO (i := 10) (qB 12 2047) rfl ?_
   refine oS Tryz.sizeOf29 ?_
   refine qM (Hp.Le.refl _) ?_
   refine qT (i := 11) (qB 12 4095) (Hp.Le.refl _) rfl rfl (oV qF) ?_
   refine h_end (by kernel_rfl) ?_
   refine tC (cT (tR ?_))
   refine retR rfl (.agg Tryz.isAgg27 Tryz.sizeOf27 rfl (by repeat constructor) rfl (.agg Tryz.isAgg29 Tryz.sizeOf29 rfl (by repeat constructor) rfl (.tmp rfl .nil))) ?_
   refine leaf (hx1.trans hx2 (Nat.le_refl _)) (List.nil_sublist _) ?_
   rw [hz, hbd, drop_cons hlt]
   exact ⟨N0, N0, N0, N0, [], rfl, ProgV.nil _, fun o ho => by cases ho⟩
  have f2 := h2
  try simp only [bl] at f2
  refine cK (tC (cS (cS (cR ?_))))
  iterate 2 refine oV ?_
  refine oF 6 Tryz.underlying73 Tryz.sizeOf4 ?_
  refine oL Tryz.isAgg4 ?_
  refine oN (tC ?_)
  refine cC rfl (fun h3 => ?_) (fun h3 => ?_)
  ·
   have f3 := h3
   try simp only [bl] at f3
   have hbd := hbad f3
   have hge : (lexZ s).toks.length ≤ i := by
     rw [f3] at h2
     simp at h2
     omega
   refine cS (cR ?_)
   refine o_buildS trivial rfl (bld27) rfl .nil ?_
   iterate 2 refine oV ?_
   refine o_lenS trivial rfl Tryz.underlying9 rfl ?_
   refine o_callQ trivial rfl Tryz.call44 rfl (refPlace_any s (s.size : Nat) (by omega)) ?_
   refine oS Tryz.sizeOf27 ?_
   refine oS Tryz.sizeOf29 ?_
   refine oV ?_
   refine oN (tC (cT (tR ?_)))
   refine retR rfl (.agg Tryz.isAgg27 Tryz.sizeOf27 rfl (by repeat constructor) rfl (.agg Tryz.isAgg29 Tryz.sizeOf29 rfl (by repeat constructor) rfl (.tmp rfl .nil))) ?_
   refine leaf (hx1.trans hx2 (Nat.le_refl _)) (List.nil_sublist _) ?_
   rw [hz, hbd, List.drop_eq_nil_of_le hge]
   exact ⟨N0, N0, N0, N0, [], rfl, ProgV.nil _, fun o ho => by cases ho⟩
  have f3 := h3
  try simp only [bl] at f3
  have hb0 : bad = false := by simpa using h3
  obtain rfl := hgood hb0
  have hfew : ∀ o ∈ ns, o.c.few 5 := fun o ho => Prg.few_all hP hfine.ok o.c (List.mem_map.2 ⟨o, ho, rfl⟩)
  obtain ⟨l, hsh, hni, hno, hli, hlo⟩ := hP.ex hfine.ok
  have hlr := long_right hsh ⟨hni, hli⟩ ⟨hno, hlo⟩
  refine cK (tC (cS ?_))
  refine c_sealR (u := vi) (xss := scs ins) (by repeat constructor) (scs_len _) (scs_one _) (by unfold maxLen; omega) (fun I3 hx3 hsi => ?_)
  refine c_sealR (u := vl) (xss := ls.map LetC.cells) (by repeat constructor) (List.length_map _) (lts_two _) (by unfold maxLen; omega) (fun I4 hx4 hsl => ?_)
  refine c_sealR (u := vo) (xss := scs outs) (by repeat constructor) (scs_len _) (scs_one _) (by unfold maxLen; omega) (fun I5 hx5 hso => ?_)
  refine c_sealR (u := va) (xss := nds ns) (by repeat constructor) (nds_len _) (nds_eight _) (by unfold maxLen; omega) (fun I6 hx6 hsa => ?_)
  have hsi := hsi.le (hx4.le.trans (hx5.le.trans hx6.le))
  have hsl := hsl.le (hx5.le.trans hx6.le)
  have hso := hso.le hx6.le
  have hpv : ProgV I6 vi vl vo va ⟨ins, ls, outs, ns.map NodeV.c⟩ ns := ⟨hsi, hsl, hso, hsa, fun o ho => (hok o ho).le (hx3.le.trans (hx4.le.trans (hx5.le.trans hx6.le))), rfl⟩
  have hx16 : Ext w.heap.size I I6 := hx1.trans (hx2.trans (hx3.trans (hx4.trans (hx5.trans hx6 (Nat.le_refl _)) (Nat.le_refl _)) (Nat.le_refl _)) (Nat.le_refl _)) (Nat.le_refl _)
  refine cR ?_
  iterate 2 refine oV ?_
  refine oF 2 Tryz.underlying73 Tryz.sizeOf27 ?_
  refine oA Tryz.isAgg27 Tryz.sizeOf27 ?_
  refine o_callQ trivial rfl Tryz.call45 rfl (rrLong_any vi vl vo va _ ns hpv (shaped_low hsh) (by omega)) ?_
  refine oV ?_
  refine oN (tC (cS (cS (cR ?_))))
  refine oV ?_
  refine oN (tC ?_)
  refine cC rfl (fun h4 => ?_) (fun h4 => ?_)
  ·
   have f4 := h4
   try simp only [bl] at f4
   refine cS (cR ?_)
   refine o_buildS trivial rfl (bld27) rfl .nil ?_
   refine o_buildS trivial rfl (bld29) rfl (.cons rfl rfl rfl (by repeat constructor) (.cons rfl rfl rfl (by repeat constructor) .nil)) ?_
   refine oS Tryz.sizeOf27 ?_
   refine oS Tryz.sizeOf29 ?_
   refine oV ?_
   refine oN (tC (cT (tR ?_)))
   refine retR rfl (.agg Tryz.isAgg27 Tryz.sizeOf27 rfl (by repeat constructor) rfl (.agg Tryz.isAgg29 Tryz.sizeOf29 rfl (by repeat constructor) rfl (.tmp rfl .nil))) ?_
   refine leaf hx16 (List.nil_sublist _) ?_
   rw [hz]
   unfold parseT
   dsimp only
   rw [if_neg (by rw [hlr, f4]; decide)]
   exact ⟨N0, N0, N0, N0, [], rfl, ProgV.nil _, fun o ho => by cases ho⟩
  have f4 := h4
  try simp only [bl] at f4
  refine cK (tC (cS (cR ?_)))
  iterate 2 refine oV ?_
  refine oF 2 Tryz.underlying73 Tryz.sizeOf27 ?_
  refine oA Tryz.isAgg27 Tryz.sizeOf27 ?_
  refine o_buildS trivial rfl (bld29) rfl .nil ?_
  refine oS Tryz.sizeOf27 ?_
  refine oS Tryz.sizeOf29 ?_
  refine oV ?_
  refine oN (tC (cT ?_))
  refine retR rfl (.agg Tryz.isAgg27 Tryz.sizeOf27 rfl (by repeat constructor) rfl (.agg Tryz.isAgg29 Tryz.sizeOf29 rfl (by repeat constructor) rfl (.tmp rfl .nil))) ?_
  refine leaf hx16 (List.nil_sublist _) ?_
  rw [hz]
  unfold parseT
  dsimp only
  rw [if_pos (by rw [hlr, show longZ _ = false from h4]; rfl)]
  exact ⟨vi, vl, vo, va, ns, rfl, hpv, hfew⟩
theorem rrNodeEq_any (x y : NodeV) {I : Hp} (hx : x.ok I) (hy : y.ok I) (he : x.c = y.c) : Fun Tryz.prog 46 [.agg x.cells.toArray, .agg y.cells.toArray] I [] (fun v _ _ => v = .bool true) := by
  obtain ⟨⟨kind, a, b, e, name, neg, n, d⟩, vn, vd⟩ := x
  obtain ⟨c2, vn2, vd2⟩ := y
  change (⟨kind, a, b, e, name, neg, n, d⟩ : NodeC) = c2 at he
  subst he
  have ha : Ws I vn n := hx.1
  have hb : Ws I vd d := hx.2
  have hc : Ws I vn2 n := hy.1
  have hd : Ws I vd2 d := hy.2
  unfold NodeV.cells
  intro w hw
  refine enter2 _ Tryz.func46 rfl Tryz.ntmps46 rfl ?_ hw
  refine cS (cR ?_)
  refine o_box trivial rfl rfl rfl (fun b2 => ?_)
  refine o_box trivial rfl rfl rfl (fun b3 => ?_)
  refine oV ?_
  refine oN (tC (cS (cR ?_)))
  refine oF 0 Tryz.underlying44 Tryz.sizeOf3 ?_
  refine oL Tryz.isAgg3 ?_
  refine oF 0 Tryz.underlying44 Tryz.sizeOf3 ?_
  refine oL Tryz.isAgg3 ?_
  refine oV ?_
  refine' o_and trivial trivial rfl rfl rfl rfl rfl rfl rfl rfl (fun hb10 => ?_) ?_
  rotate_left
  ·
   have fb10 := hb10
   try simp only [bl] at fb10
   refine oX (T := 3) (off := 1) (wS rfl rfl hb10) rfl Tryz.underlying44 rfl rfl rfl Tryz.sizeOf3 rfl rfl ?_
   refine o_load1 (wS rfl rfl hb10) rfl Tryz.isAgg3 rfl (by repeat constructor) (by repeat constructor) ?_
   refine oX (T := 3) (off := 1) (wS rfl rfl hb10) rfl Tryz.underlying44 rfl rfl rfl Tryz.sizeOf3 rfl rfl ?_
   refine o_load1 (wS rfl rfl hb10) rfl Tryz.isAgg3 rfl (by repeat constructor) (by repeat constructor) ?_
   refine o_pv (wS rfl rfl hb10) rfl rfl ?_
   refine oN ?_
   exact joins rfl
  refine' o_and trivial trivial rfl rfl rfl rfl rfl rfl rfl rfl (fun hb17 => ?_) ?_
  rotate_left
  ·
   have fb17 := hb17
   try simp only [bl] at fb17
   refine oX (T := 3) (off := 2) (wS rfl rfl hb17) rfl Tryz.underlying44 rfl rfl rfl Tryz.sizeOf3 rfl rfl ?_
   refine o_load1 (wS rfl rfl hb17) rfl Tryz.isAgg3 rfl (by repeat constructor) (by repeat constructor) ?_
   refine oX (T := 3) (off := 2) (wS rfl rfl hb17) rfl Tryz.underlying44 rfl rfl rfl Tryz.sizeOf3 rfl rfl ?_
   refine o_load1 (wS rfl rfl hb17) rfl Tryz.isAgg3 rfl (by repeat constructor) (by repeat constructor) ?_
   refine o_pv (wS rfl rfl hb17) rfl rfl ?_
   refine oN ?_
   exact joins rfl
  refine' o_and trivial trivial rfl rfl rfl rfl rfl rfl rfl rfl (fun hb24 => ?_) ?_
  rotate_left
  ·
   have fb24 := hb24
   try simp only [bl] at fb24
   refine oX (T := 3) (off := 3) (wS rfl rfl hb24) rfl Tryz.underlying44 rfl rfl rfl Tryz.sizeOf3 rfl rfl ?_
   refine o_load1 (wS rfl rfl hb24) rfl Tryz.isAgg3 rfl (by repeat constructor) (by repeat constructor) ?_
   refine oX (T := 3) (off := 3) (wS rfl rfl hb24) rfl Tryz.underlying44 rfl rfl rfl Tryz.sizeOf3 rfl rfl ?_
   refine o_load1 (wS rfl rfl hb24) rfl Tryz.isAgg3 rfl (by repeat constructor) (by repeat constructor) ?_
   refine o_pv (wS rfl rfl hb24) rfl rfl ?_
   refine oN ?_
   exact joins rfl
  refine' o_and trivial trivial rfl rfl rfl rfl rfl rfl rfl rfl (fun hb31 => ?_) ?_
  rotate_left
  ·
   have fb31 := hb31
   try simp only [bl] at fb31
   refine oX (T := 9) (off := 4) (wS rfl rfl hb31) rfl Tryz.underlying44 rfl rfl rfl Tryz.sizeOf9 rfl rfl ?_
   refine o_load1 (wS rfl rfl hb31) rfl Tryz.isAgg9 rfl (by repeat constructor) (by repeat constructor) ?_
   refine oX (T := 9) (off := 4) (wS rfl rfl hb31) rfl Tryz.underlying44 rfl rfl rfl Tryz.sizeOf9 rfl rfl ?_
   refine o_load1 (wS rfl rfl hb31) rfl Tryz.isAgg9 rfl (by repeat constructor) (by repeat constructor) ?_
   refine o_pv (wS rfl rfl hb31) rfl rfl ?_
   refine oN ?_
   exact joins rfl
  refine' o_and trivial trivial rfl rfl rfl rfl rfl rfl rfl rfl (fun hb38 => ?_) ?_
  rotate_left
  ·
   have fb38 := hb38
   try simp only [bl] at fb38
   refine oX (T := 42) (off := 5) (wS rfl rfl hb38) rfl Tryz.underlying44 rfl rfl rfl Tryz.sizeOf42 rfl rfl ?_
   refine o_loadA (wS rfl rfl hb38) rfl Tryz.isAgg42 Tryz.sizeOf42 rfl (by repeat constructor) (by repeat constructor) ?_
   refine oX (T := 42) (off := 5) (wS rfl rfl hb38) rfl Tryz.underlying44 rfl rfl rfl Tryz.sizeOf42 rfl rfl ?_
   refine o_loadA (wS rfl rfl hb38) rfl Tryz.isAgg42 Tryz.sizeOf42 rfl (by repeat constructor) (by repeat constructor) ?_
   refine o_callQ (wS rfl rfl hb38) rfl Tryz.call80 rfl (rEqual_any neg neg vn vd vn2 vd2 n d n d ha hb hc hd) ?_
   refine oN ?_
   exact joins rfl
  refine oV ?_
  refine oN (tC (cT ?_))
  refine ret1 rfl rfl ?_
  refine leaf0 (congrArg Value.bool ?_)
  simp
theorem rrNamesEq_any (va vb : Value) (l : List ByteArray) {I : Hp} (ha : Slc I 1 va (scs l)) (hb : Slc I 1 vb (scs l)) : Fun Tryz.prog 35 [va, vb] I [] (fun v _ _ => v = .bool true) := by
  have hl := scs_len l
  have hmx := ha.most
  rw [hl] at hmx
  unfold maxLen at hmx
  intro w hw
  refine enter2 _ Tryz.func35 rfl Tryz.ntmps35 rfl ?_ hw
  refine cS (cR ?_)
  refine oV ?_
  refine oN (tC (cS (cS (cR ?_))))
  refine oV ?_
  refine o_lenSlc trivial rfl Tryz.underlying23 rfl (ha) ?_
  refine oV ?_
  refine o_lenSlc trivial rfl Tryz.underlying23 rfl (hb) ?_
  refine oV ?_
  refine oN (tC ?_)
  refine cC rfl (fun h1 => ?_) (fun h1 => ?_)
  ·
   have f1 := h1
   try simp only [bl] at f1
   exfalso; simp at h1
  have f1 := h1
  try simp only [bl] at f1
  refine cK (tC (cS (cS (cR ?_))))
  refine oV ?_
  refine oN (tC (cB ?_))
  refine c_loop (ι := Nat) [0, 1] (.cons rfl (.cons rfl .nil)) (fun x => l.length - x) (fun x E0 => (5, .int .i64 (x : Int)) :: E0) (fun x => St w [] I []) (fun x => x ≤ l.length) (0) (sC rfl (sC rfl (sC rfl sN))) (fun _ h => h) (Nat.zero_le _) ?_
  rintro i hi
  try dsimp only
  refine cS (cS (cR ?_))
  iterate 2 refine oV ?_
  refine o_lenSlc trivial rfl Tryz.underlying23 rfl (ha) ?_
  refine oV ?_
  refine oN (tC ?_)
  refine cC rfl (fun h2 => ?_) (fun h2 => ?_)
  ·
   have f2 := h2
   try simp only [bl] at f2
   obtain ⟨s, hs⟩ : ∃ s, l[i]? = some s := ⟨l[i]'(by omega), List.getElem?_eq_getElem (by omega)⟩
   refine cK (tC (cS (cB (cS ?_))))
   refine c_quiet (by kernel_rfl) (by kernel_rfl) (fun _ h => h.drawn) ?_
   iterate 2 refine oV ?_
   refine o_elem trivial rfl Tryz.underlying23 Tryz.sizeOf9 rfl (ha) rfl (by omega) ?_
   refine o_load1I trivial rfl Tryz.isAgg9 rfl (scs_at ha hs) ?_
   iterate 2 refine oV ?_
   refine o_elem trivial rfl Tryz.underlying23 Tryz.sizeOf9 rfl (hb) rfl (by omega) ?_
   refine o_load1I trivial rfl Tryz.isAgg9 rfl (scs_at hb hs) ?_
   refine oV ?_
   refine oN (tC ?_)
   refine cC rfl (fun h3 => ?_) (fun h3 => ?_)
   ·
    have f3 := h3
    try simp only [bl] at f3
    exfalso; simp at h3
   have f3 := h3
   try simp only [bl] at f3
   refine cK (blk_n (tC (cR ?_)))
   refine oV ?_
   first | (refine o_add trivial rfl rfl rfl ?_ ?_; (omega)) | refine oV ?_
   refine oV ?_
   refine oN ?_
   exact again (i + 1) (sC rfl (sC rfl (sC rfl sN))) (fun _ h => h) (by show l.length - (i + 1) < l.length - i; omega) (by show i + 1 ≤ _; omega)
  have f2 := h2
  try simp only [bl] at f2
  refine c_exit (then_x (then_x (blk_eq rfl (tC (cS (cR ?_))))))
  refine oV ?_
  refine oN (tC (cT ?_))
  refine ret1 rfl rfl ?_
  exact leaf0 rfl
theorem rrSame_any (vi vl vo va ui ul uo ua : Value) (p : ProgC) (ns ms : List NodeV) {I : Hp} (hp : ProgV I vi vl vo va p ns) (hq : ProgV I ui ul uo ua p ms) :
    Fun Tryz.prog 17 [.agg #[vi, vl, vo, va], .agg #[ui, ul, uo, ua]] I [] (fun v _ _ => v = .bool true) := by
  have hsi := hp.si
  have hsl := hp.sl
  have hso := hp.so
  have hsa := hp.sa
  have gsi := hq.si
  have gsl := hq.sl
  have gso := hq.so
  have gsa := hq.sa
  have hll : (p.lets.map LetC.cells).length = p.lets.length := List.length_map _
  have hla := nds_len ns
  have gla := nds_len ms
  have hal : p.all.length = ns.length := by rw [← hp.eq, List.length_map]
  have gal : p.all.length = ms.length := by rw [← hq.eq, List.length_map]
  have hmx := hsl.most
  rw [hll] at hmx
  unfold maxLen at hmx
  have hmy := hsa.most
  rw [hla] at hmy
  unfold maxLen at hmy
  intro w hw
  refine enter2 _ Tryz.func17 rfl Tryz.ntmps17 rfl ?_ hw
  refine cS (cR ?_)
  refine o_box trivial rfl rfl rfl (fun b2 => ?_)
  refine o_box trivial rfl rfl rfl (fun b3 => ?_)
  refine oV ?_
  refine oN (tC (cS (cS (cR ?_))))
  refine oF 1 Tryz.underlying27 Tryz.sizeOf24 ?_
  refine oL Tryz.isAgg24 ?_
  refine o_lenSlc trivial rfl Tryz.underlying24 rfl (hsl) ?_
  refine oF 1 Tryz.underlying27 Tryz.sizeOf24 ?_
  refine oL Tryz.isAgg24 ?_
  refine o_lenSlc trivial rfl Tryz.underlying24 rfl (gsl) ?_
  refine oV ?_
  refine' o_or trivial trivial rfl rfl rfl rfl rfl rfl rfl rfl (fun hb15 => ?_) ?_
  rotate_left
  ·
   have fb15 := hb15
   try simp only [bl] at fb15
   refine oX (T := 25) (off := 3) (wS rfl rfl hb15) rfl Tryz.underlying27 rfl rfl rfl Tryz.sizeOf25 rfl rfl ?_
   refine o_load1 (wS rfl rfl hb15) rfl Tryz.isAgg25 rfl (by repeat constructor) (by repeat constructor) ?_
   refine o_lenSlc (wS rfl rfl hb15) rfl Tryz.underlying25 rfl (hsa) ?_
   refine oX (T := 25) (off := 3) (wS rfl rfl hb15) rfl Tryz.underlying27 rfl rfl rfl Tryz.sizeOf25 rfl rfl ?_
   refine o_load1 (wS rfl rfl hb15) rfl Tryz.isAgg25 rfl (by repeat constructor) (by repeat constructor) ?_
   refine o_lenSlc (wS rfl rfl hb15) rfl Tryz.underlying25 rfl (gsa) ?_
   refine o_pv (wS rfl rfl hb15) rfl rfl ?_
   refine oN ?_
   exact joins rfl
  refine oN (tC ?_)
  refine cC rfl (fun h1 => ?_) (fun h1 => ?_)
  ·
   have f1 := h1
   try simp only [bl] at f1
   exfalso
   simp at h1
   omega
  have f1 := h1
  try simp only [bl] at f1
  refine cK (tC (cS (cS (cR ?_))))
  refine oV ?_
  refine oN (tC (cB ?_))
  refine c_loop (ι := Nat) [2, 3] (.cons rfl (.cons rfl .nil)) (fun x => p.lets.length - x) (fun x E0 => (5, .int .i64 (x : Int)) :: E0) (fun x => St w [] I [.box b3 (.cells #[ui, ul, uo, ua] 27 (0, 0)), .box b2 (.cells #[vi, vl, vo, va] 27 (0, 0))]) (fun x => x ≤ p.lets.length) (0) (sC rfl (sC rfl (sC rfl sN))) (fun _ h => h) (Nat.zero_le _) ?_
  rintro i hi
  try dsimp only
  refine cS (cS (cR ?_))
  refine oV ?_
  refine oF 1 Tryz.underlying27 Tryz.sizeOf24 ?_
  refine oL Tryz.isAgg24 ?_
  refine o_lenSlc trivial rfl Tryz.underlying24 rfl (hsl) ?_
  refine oV ?_
  refine oN (tC ?_)
  refine cC rfl (fun h2 => ?_) (fun h2 => ?_)
  ·
   have f2 := h2
   try simp only [bl] at f2
   obtain ⟨c, hc⟩ : ∃ c, p.lets[i]? = some c := ⟨p.lets[i]'(by omega), List.getElem?_eq_getElem (by omega)⟩
   refine cK (tC (cS (cB (cS ?_))))
   refine c_quiet (by kernel_rfl) (by kernel_rfl) (fun _ h => h.drawn) ?_
   refine oF 1 Tryz.underlying27 Tryz.sizeOf24 ?_
   refine oL Tryz.isAgg24 ?_
   refine oV ?_
   refine o_elem trivial rfl Tryz.underlying24 Tryz.sizeOf46 rfl (hsl) rfl (by omega) ?_
   refine o_loadAI trivial rfl Tryz.isAgg46 Tryz.sizeOf46 rfl rfl (lts_at hsl hc) ?_
   refine oF 1 Tryz.underlying27 Tryz.sizeOf24 ?_
   refine oL Tryz.isAgg24 ?_
   refine oV ?_
   refine o_elem trivial rfl Tryz.underlying24 Tryz.sizeOf46 rfl (gsl) rfl (by omega) ?_
   refine o_loadAI trivial rfl Tryz.isAgg46 Tryz.sizeOf46 rfl rfl (lts_at gsl hc) ?_
   refine o_neqV trivial rfl rfl rfl Tryz.eqGuardType46 (EqV.struct Tryz.underlying46 Tryz.stoodInHeld46 (EqP.cons (T := 9) (o := 0) (by decide) rfl rfl (.one Tryz.isAgg9 (by repeat constructor)) (.one Tryz.isAgg9 (by repeat constructor)) (EqV.str Tryz.underlying9) (EqP.last (T := 3) (o := 1) (by decide) rfl rfl (.one Tryz.isAgg3 (by repeat constructor)) (.one Tryz.isAgg3 (by repeat constructor)) (EqV.int Tryz.underlying3)))) ?_
   refine oN (tC ?_)
   refine cC rfl (fun h3 => ?_) (fun h3 => ?_)
   ·
    have f3 := h3
    try simp only [bl] at f3
    exfalso
    simp at h3
   have f3 := h3
   try simp only [bl] at f3
   refine cK (blk_n (tC (cR ?_)))
   refine oV ?_
   first | (refine o_add trivial rfl rfl rfl ?_ ?_; (omega)) | refine oV ?_
   refine oV ?_
   refine oN ?_
   exact again (i + 1) (sC rfl (sC rfl (sC rfl sN))) (fun _ h => h) (by show p.lets.length - (i + 1) < p.lets.length - i; omega) (by show i + 1 ≤ _; omega)
  have f2 := h2
  try simp only [bl] at f2
  refine c_exit (then_x (then_x (blk_eq rfl (tC (cS (cS (cR ?_)))))))
  refine oV ?_
  refine oN (tC (cB ?_))
  refine c_loop (ι := Nat) [2, 3] (.cons rfl (.cons rfl .nil)) (fun x => ns.length - x) (fun x E0 => (6, .int .i64 (x : Int)) :: E0) (fun x => St w [] I [.box b3 (.cells #[ui, ul, uo, ua] 27 (0, 0)), .box b2 (.cells #[vi, vl, vo, va] 27 (0, 0))]) (fun x => x ≤ ns.length) (0) (sC rfl (sC rfl (sC rfl sN))) (fun _ h => h) (Nat.zero_le _) ?_
  rintro j hj
  try dsimp only
  refine cS (cS (cR ?_))
  refine oV ?_
  refine oF 3 Tryz.underlying27 Tryz.sizeOf25 ?_
  refine oL Tryz.isAgg25 ?_
  refine o_lenSlc trivial rfl Tryz.underlying25 rfl (hsa) ?_
  refine oV ?_
  refine oN (tC ?_)
  refine cC rfl (fun h4 => ?_) (fun h4 => ?_)
  ·
   have f4 := h4
   try simp only [bl] at f4
   obtain ⟨x, hx⟩ : ∃ x, ns[j]? = some x := ⟨ns[j]'(by omega), List.getElem?_eq_getElem (by omega)⟩
   obtain ⟨y, hy⟩ : ∃ y, ms[j]? = some y := ⟨ms[j]'(by omega), List.getElem?_eq_getElem (by omega)⟩
   have hxy : x.c = y.c := by
     have e := congrArg (fun l => l[j]?) (hp.eq.trans hq.eq.symm)
     simp only [List.getElem?_map, hx, hy] at e
     exact Option.some.inj e
   refine cK (tC (cS (cB (cS ?_))))
   refine c_quiet (by kernel_rfl) (by kernel_rfl) (fun _ h => h.drawn) ?_
   refine oF 3 Tryz.underlying27 Tryz.sizeOf25 ?_
   refine oL Tryz.isAgg25 ?_
   refine oV ?_
   refine o_elem trivial rfl Tryz.underlying25 Tryz.sizeOf44 rfl (hsa) rfl (by omega) ?_
   refine o_loadAI trivial rfl Tryz.isAgg44 Tryz.sizeOf44 rfl rfl (nds_at hsa hx) ?_
   refine oF 3 Tryz.underlying27 Tryz.sizeOf25 ?_
   refine oL Tryz.isAgg25 ?_
   refine oV ?_
   refine o_elem trivial rfl Tryz.underlying25 Tryz.sizeOf44 rfl (gsa) rfl (by omega) ?_
   refine o_loadAI trivial rfl Tryz.isAgg44 Tryz.sizeOf44 rfl rfl (nds_at gsa hy) ?_
   refine o_callQ trivial rfl Tryz.call46 rfl (rrNodeEq_any x y (hp.ok x (List.mem_of_getElem? hx)) (hq.ok y (List.mem_of_getElem? hy)) hxy) ?_
   refine oV ?_
   refine oN (tC (cS (cR ?_)))
   iterate 2 refine oV ?_
   refine oN (tC ?_)
   refine c_cond_f rfl (by rfl) ?_
   refine cK (blk_n (tC (cR ?_)))
   refine oV ?_
   first | (refine o_add trivial rfl rfl rfl ?_ ?_; (omega)) | refine oV ?_
   refine oV ?_
   refine oN ?_
   exact again (j + 1) (sC rfl (sC rfl (sC rfl sN))) (fun _ h => h) (by show ns.length - (j + 1) < ns.length - j; omega) (by show j + 1 ≤ _; omega)
  have f4 := h4
  try simp only [bl] at f4
  refine c_exit (then_x (then_x (blk_eq rfl (tC (cS (cR ?_))))))
  refine oF 0 Tryz.underlying27 Tryz.sizeOf23 ?_
  refine oL Tryz.isAgg23 ?_
  refine oF 0 Tryz.underlying27 Tryz.sizeOf23 ?_
  refine oL Tryz.isAgg23 ?_
  refine o_callQ trivial rfl Tryz.call35 rfl (rrNamesEq_any vi ui p.ins hsi gsi) ?_
  refine' o_and trivial trivial rfl rfl rfl rfl rfl rfl rfl rfl (fun hb67 => ?_) ?_
  rotate_left
  ·
   have fb67 := hb67
   try simp only [bl] at fb67
   refine oX (T := 23) (off := 2) (wS rfl rfl hb67) rfl Tryz.underlying27 rfl rfl rfl Tryz.sizeOf23 rfl rfl ?_
   refine o_load1 (wS rfl rfl hb67) rfl Tryz.isAgg23 rfl (by repeat constructor) (by repeat constructor) ?_
   refine oX (T := 23) (off := 2) (wS rfl rfl hb67) rfl Tryz.underlying27 rfl rfl rfl Tryz.sizeOf23 rfl rfl ?_
   refine o_load1 (wS rfl rfl hb67) rfl Tryz.isAgg23 rfl (by repeat constructor) (by repeat constructor) ?_
   refine o_callQ (wS rfl rfl hb67) rfl Tryz.call35 rfl (rrNamesEq_any vo uo p.outs hso gso) ?_
   refine oN ?_
   exact joins rfl
  refine oV ?_
  refine oN (tC (cT ?_))
  refine ret1 rfl rfl ?_
  exact leaf0 rfl
def awS : ByteArray := ⟨#[105, 110, 32, 120, 59, 32, 108, 101, 116, 32, 97, 32, 61, 32, 50, 32, 42, 32, 120, 32, 94, 32, 45, 51, 59, 32, 111, 117, 116, 32, 97, 59]⟩
def awT (k : Int) (s : ByteArray) (c : Int) : Tok := ⟨k, s, 1, c⟩
def awX : ByteArray := ⟨#[120]⟩
def awA : ByteArray := ⟨#[97]⟩
def awTwo : ByteArray := ⟨#[50]⟩
def awThree : ByteArray := ⟨#[51]⟩
def awL1 : List Tok := [awT 1 awTwo 15, awT 2 starS 17, awT 0 awX 19, awT 2 Go.Tw.caret 21, awT 2 minusS 23, awT 1 awThree 24, awT 2 semiS 25, awT 0 outS 27, awT 0 awA 31, awT 2 semiS 32]
def awL2 : List Tok := awT 0 inS 1 :: awT 0 awX 4 :: awT 2 semiS 5 :: awT 0 letS 7 :: awT 0 awA 11 :: awT 2 equalS 13 :: awL1
theorem awS_lex : lexZ awS = ⟨awL2, 0, 0, 0⟩ := by kernel_rfl
theorem awQ : numQ awTwo = mkRat 2 1 := by
  have h1 : cutZ awTwo = awTwo.size := by kernel_rfl
  unfold numQ
  rw [if_pos h1, h1, cut_full, toList_data]
  rfl
def awP : ProgC := ⟨[awX], [⟨awA, 3⟩], [awA], [numN (mkRat 2 1), refN awX, powN 1 (-3), binN 4 0 2]⟩
def awE : Ex := .bin 4 (.num (mkRat 2 1)) (.pow (.ref awX) (-3))
theorem nameZ_X : nameZ awX = true := by kernel_rfl
theorem nameZ_A : nameZ awA = true := by kernel_rfl
theorem isT_self {k : Int} {s : ByteArray} {c : Int} : isT (awT k s c) k s = true := by simp [isT, awT]
theorem awE_ok : awE.ok := ⟨by decide, by decide, ⟨by decide +kernel, by decide +kernel, by decide +kernel⟩, nameZ_X, by decide, by decide⟩
theorem awR : RightP awP [(awA, awE)] where
  lets := rfl
  all := rfl
  ok := fun a ha => by rw [List.mem_singleton.1 ha]; exact ⟨nameZ_A, awE_ok⟩
  ins := ⟨fun s hs => by rw [List.mem_singleton.1 hs]; exact nameZ_X, by decide, by decide⟩
  outs := ⟨fun s hs => by rw [List.mem_singleton.1 hs]; exact nameZ_A, by decide, by decide⟩
  few := ⟨by decide, by decide⟩
  low := fun a ha => by rw [List.mem_singleton.1 ha]; decide
theorem awH : tZ awP = some [1, 1, 2, 3] := tZ_right awR
theorem isT_no {x : Tok} {k : Int} {t : ByteArray} (h : x.kind ≠ k) : isT x k t = false := by simp [isT, h]
theorem isT_un {k : Int} {s t : ByteArray} {c : Int} (h : s.data.toList ≠ t.data.toList) : isT (awT k s c) k t = false := by
  unfold isT awT
  rw [toList_data, toList_data]
  have : (s.data.toList == t.data.toList) = false := by simpa using h
  rw [this, Bool.and_false]
theorem awSum : Ps .sum [] awL1 (.ok [numN (mkRat 2 1), refN awX, powN 1 (-3), binN 4 0 2] [awT 2 semiS 25, awT 0 outS 27, awT 0 awA 31, awT 2 semiS 32]) := by
  have h1 : leafT (awT 1 awTwo 15) = true := rfl
  have h2 : leafT (awT 0 awX 19) = true := by unfold leafT; simp [awT, nameZ_X]
  have m1 : mulK (awT 2 starS 17) = some 4 := by unfold mulK; rw [if_pos isT_self]
  have m2 : mulK (awT 2 semiS 25) = none := by unfold mulK; rw [if_neg (by rw [isT_un (by decide)]; decide), if_neg (by rw [isT_un (by decide)]; decide)]
  have a2 : addK (awT 2 semiS 25) = none := by unfold addK; rw [if_neg (by rw [isT_un (by decide)]; decide), if_neg (by rw [isT_un (by decide)]; decide)]
  have l1 : leafN (awT 1 awTwo 15) = numN (mkRat 2 1) := by unfold leafN; rw [if_pos (show (awT 1 awTwo 15).kind = 1 from rfl)]; show numN (numQ awTwo) = _; rw [awQ]
  have l2 : leafN (awT 0 awX 19) = refN awX := by unfold leafN; rw [if_neg (by decide)]; rfl
  have e1 : expoZ awThree = some 3 := by unfold expoZ; rw [toList_data]; rfl
  have p1 := Ps.leaf (all := []) (r := awL1.tail) h1
  rw [l1] at p1
  have p2 := Ps.leaf (all := [numN (mkRat 2 1)]) (r := [awT 2 Go.Tw.caret 21, awT 2 minusS 23, awT 1 awThree 24, awT 2 semiS 25, awT 0 outS 27, awT 0 awA 31, awT 2 semiS 32]) h2
  rw [l2] at p2
  refine .sum_ok (.product_ok (.fac (isT_no (by decide)) (.power_ok p1 (.pow_none (isT_un (by decide))))) (.prodL_ok m1 (.fac (isT_no (by decide)) (.power_ok p2 (.pow_ok isT_self (.neg isT_self rfl e1)))) (.prodL_end m2))) (.sumL_end a2)
theorem nameT_X {c : Int} : nameT (awT 0 awX c) = true := by unfold nameT; simp [awT, nameZ_X]
theorem nameT_A {c : Int} : nameT (awT 0 awA c) = true := by unfold nameT; simp [awT, nameZ_A]
theorem namesZ_aw {c d : Int} {s : ByteArray} {r : List Tok} (h : nameT (awT 0 s c) = true) : namesZ (awT 0 s c :: awT 2 semiS d :: r) = .ok [s] r := by
  unfold namesZ
  rw [if_pos h, if_neg (by rw [isT_un (by decide)]; decide), if_pos isT_self]
  rfl
theorem awPrg : prgZ awL2 = .ok awP :=
  prgZ_eq (.ok isT_self (namesZ_aw nameT_X) (.more isT_self (.ok nameT_A isT_self awSum isT_self) (.fin (isT_un (by decide)))) isT_self (namesZ_aw nameT_A))
theorem awS_parse : parseZ awS = ⟨awP, 0, 0, 0⟩ := by
  unfold parseZ
  rw [awS_lex]
  dsimp only
  rw [if_neg (by decide), awPrg]
  unfold parseT
  dsimp only
  rw [if_pos (by rw [awH]; rfl)]
theorem ints_any (va vb : Value) (l : List Nat) {I : Hp} (ha : Slc I 1 va (nss l)) (hb : Slc I 1 vb (nss l)) : Fun Tryz.prog 22 [va, vb] I [] (fun v _ _ => v = .bool true) := by
  have hl := nss_len l
  have hmx := ha.most
  rw [hl] at hmx
  unfold maxLen at hmx
  intro w hw
  refine enter2 _ Tryz.func22 rfl Tryz.ntmps22 rfl ?_ hw
  refine cS (cR ?_)
  refine oV ?_
  refine oN (tC (cS (cS (cR ?_))))
  refine oV ?_
  refine o_lenSlc trivial rfl Tryz.underlying37 rfl (ha) ?_
  refine oV ?_
  refine o_lenSlc trivial rfl Tryz.underlying37 rfl (hb) ?_
  refine oV ?_
  refine oN (tC ?_)
  refine cC rfl (fun h1 => ?_) (fun h1 => ?_)
  ·
   have f1 := h1
   try simp only [bl] at f1
   exfalso; simp at h1
  have f1 := h1
  try simp only [bl] at f1
  refine cK (tC (cS (cS (cR ?_))))
  refine oV ?_
  refine oN (tC (cB ?_))
  refine c_loop (ι := Nat) [0, 1] (.cons rfl (.cons rfl .nil)) (fun x => l.length - x) (fun x E0 => (5, .int .i64 (x : Int)) :: E0) (fun x => St w [] I []) (fun x => x ≤ l.length) (0) (sC rfl (sC rfl (sC rfl sN))) (fun _ h => h) (Nat.zero_le _) ?_
  rintro i hi
  try dsimp only
  refine cS (cS (cR ?_))
  iterate 2 refine oV ?_
  refine o_lenSlc trivial rfl Tryz.underlying37 rfl (ha) ?_
  refine oV ?_
  refine oN (tC ?_)
  refine cC rfl (fun h2 => ?_) (fun h2 => ?_)
  ·
   have f2 := h2
   try simp only [bl] at f2
   obtain ⟨s, hs⟩ : ∃ s, l[i]? = some s := ⟨l[i]'(by omega), List.getElem?_eq_getElem (by omega)⟩
   refine cK (tC (cS (cB (cS ?_))))
   refine c_quiet (by kernel_rfl) (by kernel_rfl) (fun _ h => h.drawn) ?_
   iterate 2 refine oV ?_
   refine o_elem trivial rfl Tryz.underlying37 Tryz.sizeOf3 rfl (ha) rfl (by omega) ?_
   refine o_load1I trivial rfl Tryz.isAgg3 rfl (nss_at ha hs) ?_
   iterate 2 refine oV ?_
   refine o_elem trivial rfl Tryz.underlying37 Tryz.sizeOf3 rfl (hb) rfl (by omega) ?_
   refine o_load1I trivial rfl Tryz.isAgg3 rfl (nss_at hb hs) ?_
   refine oV ?_
   refine oN (tC ?_)
   refine cC rfl (fun h3 => ?_) (fun h3 => ?_)
   ·
    have f3 := h3
    try simp only [bl] at f3
    exfalso; simp at h3
   have f3 := h3
   try simp only [bl] at f3
   refine cK (blk_n (tC (cR ?_)))
   refine oV ?_
   first | (refine o_add trivial rfl rfl rfl ?_ ?_; (omega)) | refine oV ?_
   refine oV ?_
   refine oN ?_
   exact again (i + 1) (sC rfl (sC rfl (sC rfl sN))) (fun _ h => h) (by show l.length - (i + 1) < l.length - i; omega) (by show i + 1 ≤ _; omega)
  have f2 := h2
  try simp only [bl] at f2
  refine c_exit (then_x (then_x (blk_eq rfl (tC (cS (cR ?_))))))
  refine oV ?_
  refine oN (tC (cT ?_))
  refine ret1 rfl rfl ?_
  exact leaf0 rfl
theorem awW {I : Hp} {b1 b2 b3 b4 : Nat} {T1 T2 T3 : TypeId} {u1 u2 : Value} (h1 : I b1 = some (.cells #[.string ⟨#[120]⟩] T1 (0, 0))) (h2 : I b2 = some (.cells #[.string ⟨#[97]⟩, .int .i64 3] T2 (0, 0))) (h3 : I b3 = some (.cells #[.string ⟨#[97]⟩] T1 (0, 0))) (h4 : I b4 = some (.cells ((NodeV.cells ⟨numN (mkRat 2 1), u1, u2⟩ ++ (NodeV.cells ⟨refN awX, N0, N0⟩ ++ (NodeV.cells ⟨powN 1 (-3), N0, N0⟩ ++ (NodeV.cells ⟨binN 4 0 2, N0, N0⟩ ++ []))))).toArray T3 (0, 0)))
    (k1 : Ws I u1 (natW (mkRat 2 1).num.natAbs)) (k2 : Ws I u2 (natW (mkRat 2 1).den)) :
    ProgV I (.slice (some ⟨b1, 0, none⟩) 1 1) (.slice (some ⟨b2, 0, none⟩) 1 1) (.slice (some ⟨b3, 0, none⟩) 1 1) (.slice (some ⟨b4, 0, none⟩) 4 4) awP [⟨numN (mkRat 2 1), u1, u2⟩, ⟨refN awX, N0, N0⟩, ⟨powN 1 (-3), N0, N0⟩, ⟨binN 4 0 2, N0, N0⟩] where
  si := Slc.of_box (sz := 1) (xss := scs awP.ins) (c := 1) h1 (scs_one _) (by decide) (by decide)
  sl := Slc.of_box (sz := 2) (xss := awP.lets.map LetC.cells) (c := 1) h2 (fun c hc => by rw [List.mem_singleton.1 hc]; rfl) (by decide) (by decide)
  so := Slc.of_box (sz := 1) (xss := scs awP.outs) (c := 1) h3 (scs_one _) (by decide) (by decide)
  sa := Slc.of_box (sz := 8) (xss := nds [⟨numN (mkRat 2 1), u1, u2⟩, ⟨refN awX, N0, N0⟩, ⟨powN 1 (-3), N0, N0⟩, ⟨binN 4 0 2, N0, N0⟩]) (c := 4) h4 (nds_eight _) (by unfold maxLen; exact Nat.le_of_ble_eq_true rfl) (Nat.le_of_ble_eq_true rfl)
  ok := fun o ho => by
    simp only [List.mem_cons, List.not_mem_nil, or_false] at ho
    rcases ho with rfl | rfl | rfl | rfl
    · exact ⟨k1, k2⟩
    · exact ⟨Ws.nil _, Ws.nil _⟩
    · exact ⟨Ws.nil _, Ws.nil _⟩
    · exact ⟨Ws.nil _, Ws.nil _⟩
  eq := rfl
theorem awake11_any {I : Hp} (hT : Tabs I) (hM : Mx I) (hE : Errs I) : Fun Tryz.prog 14 [] I [] (fun v _ _ => v = .bool true) := by
  have hpa := parse_any awS hT hM hE (by decide)
  rw [awS_parse] at hpa
  intro w hw
  refine enter0 _ Tryz.func14 rfl Tryz.ntmps14 ?_ hw
  refine cS (cR ?_)
  refine oV ?_
  refine oN (tC (cS (cR ?_)))
  refine o_callI trivial rfl Tryz.call15 rfl hpa ?_
  rintro _ I1 hx1 ⟨vi, vl, vo, va, ns, rfl, hp, hf⟩
  refine oV ?_
  have hp : ProgV I1 vi vl vo va awP ns := hp
  have hsi := hp.si
  have hsl := hp.sl
  have hso := hp.so
  have hsa := hp.sa
  iterate 3 refine oV ?_
  refine o_alloc trivial rfl Tryz.zeroValue27 rfl (fun b1 => ?_)
  refine o_alloc trivial rfl Tryz.zeroValue29 rfl (fun b2 => ?_)
  refine oS Tryz.sizeOf27 ?_
  refine oS Tryz.sizeOf29 ?_
  refine oV ?_
  refine oN (tC (cS (cR ?_)))
  refine o_buildSl trivial rfl Tryz.underlying23 Tryz.sizeOf9 Tryz.zeroValue9 (by decide) (by decide) rfl (by repeat first | exact rfl | constructor) rfl (fun b10 => ?_)
  refine o_buildS trivial rfl (bld46) rfl (.cons rfl rfl rfl (by repeat constructor) (.cons rfl rfl rfl (by repeat constructor) .nil)) ?_
  refine o_buildSl trivial rfl Tryz.underlying24 Tryz.sizeOf46 Tryz.zeroValue46 (by decide) (by decide) rfl (by repeat first | exact rfl | constructor) rfl (fun b12 => ?_)
  refine o_buildSl trivial rfl Tryz.underlying23 Tryz.sizeOf9 Tryz.zeroValue9 (by decide) (by decide) rfl (by repeat first | exact rfl | constructor) rfl (fun b13 => ?_)
  refine o_callI trivial rfl Tryz.call38 rfl (rOf8_any 2 (by decide)) ?_
  rintro _ I2 hx2 ⟨u1, u2, rfl, k1, k2⟩
  iterate 2 refine o_buildS trivial rfl (bld44) rfl (.cons rfl rfl rfl (by repeat constructor) (.cons rfl rfl rfl (by repeat constructor) .nil)) ?_
  iterate 2 refine o_buildS trivial rfl (bld44) rfl (.cons rfl rfl rfl (by repeat constructor) (.cons rfl rfl rfl (by repeat constructor) (.cons rfl rfl rfl (by repeat constructor) .nil))) ?_
  refine o_buildSl trivial rfl Tryz.underlying25 Tryz.sizeOf44 Tryz.zeroValue44 (by decide) (by decide) rfl (by repeat first | exact rfl | constructor) rfl (fun b19 => ?_)
  refine l_sealB (b := b19) .here (fun I3 hx3 hb19 => ?_)
  refine l_sealB (b := b13) .here (fun I4 hx4 hb13 => ?_)
  refine l_sealB (b := b12) .here (fun I5 hx5 hb12 => ?_)
  refine l_sealB (b := b10) .here (fun I6 hx6 hb10 => ?_)
  have hl2 := hx2.le.trans (hx3.le.trans (hx4.le.trans (hx5.le.trans hx6.le)))
  have hl3 := hx3.le.trans (hx4.le.trans (hx5.le.trans hx6.le))
  have hq := awW (u1 := u1) (u2 := u2) hb10 (hx6.le _ _ hb12) (hx6.le _ _ (hx5.le _ _ hb13)) (hx6.le _ _ (hx5.le _ _ (hx4.le _ _ hb19))) (k1.le hl3) (k2.le hl3)
  have hp6 := hp.le hl2
  have hri := trRight_any _ _ _ _ _ _ hp6 (fun o ho => ⟨by have := (hf o ho).1; omega, by have := (hf o ho).2; omega⟩)
  have hhe := trHeights_any _ _ _ _ _ _ hp6 (fun o ho => ⟨by have := (hf o ho).1; omega, by have := (hf o ho).2; omega⟩)
  rw [awH] at hri hhe
  refine o_buildS trivial rfl (bld27) rfl (.cons rfl (by first | exact (Ws.cells1 (by assumption)).1 | exact (Slc.cells1 (by assumption)).1 | rfl) (by rfl) (by repeat constructor) (.cons rfl (by first | exact (Ws.cells1 (by assumption)).1 | exact (Slc.cells1 (by assumption)).1 | rfl) (by rfl) (by repeat constructor) (.cons rfl (by first | exact (Ws.cells1 (by assumption)).1 | exact (Slc.cells1 (by assumption)).1 | rfl) (by rfl) (by repeat constructor) (.cons rfl (by first | exact (Ws.cells1 (by assumption)).1 | exact (Slc.cells1 (by assumption)).1 | rfl) (by rfl) (by repeat constructor) .nil)))) ?_
  refine o_alloc trivial rfl Tryz.zeroValue27 rfl (fun b4 => ?_)
  refine oS Tryz.sizeOf27 ?_
  refine oN (tC (cS (cR ?_)))
  iterate 2 refine oV ?_
  refine' o_and trivial trivial rfl rfl rfl rfl rfl rfl rfl rfl (fun hb23 => ?_) ?_
  rotate_left
  ·
   have fb23 := hb23
   try simp only [bl] at fb23
   refine o_loadA (wS rfl rfl hb23) rfl Tryz.isAgg29 Tryz.sizeOf29 rfl (by repeat constructor) (by repeat constructor) ?_
   refine o_buildS (wS rfl rfl hb23) rfl (bld29) rfl .nil ?_
   refine o_eqlV (wS rfl rfl hb23) rfl rfl rfl Tryz.eqGuardType29 (EqV.struct Tryz.underlying29 Tryz.stoodInHeld29 (EqP.cons (T := 3) (o := 0) (by decide) rfl rfl (.one Tryz.isAgg3 (by repeat constructor)) (.one Tryz.isAgg3 (by repeat constructor)) (EqV.int Tryz.underlying3) (EqP.last (T := 3) (o := 1) (by decide) rfl rfl (.one Tryz.isAgg3 (by repeat constructor)) (.one Tryz.isAgg3 (by repeat constructor)) (EqV.int Tryz.underlying3)))) ?_
   refine oN ?_
   exact joins rfl
  refine' o_and trivial trivial rfl rfl rfl rfl rfl rfl rfl rfl (fun hb28 => ?_) ?_
  rotate_left
  ·
   have fb28 := hb28
   try simp only [bl] at fb28
   iterate 2 refine o_loadA (wS rfl rfl hb28) rfl Tryz.isAgg27 Tryz.sizeOf27 rfl (by repeat constructor) (by repeat constructor) ?_
   refine o_callQ (wS rfl rfl hb28) rfl Tryz.call17 rfl (rrSame_any _ _ _ _ _ _ _ _ _ _ _ hp6 hq) ?_
   refine oN ?_
   exact joins rfl
  refine' o_and trivial trivial rfl rfl rfl rfl rfl rfl rfl rfl (fun hb33 => ?_) ?_
  rotate_left
  ·
   have fb33 := hb33
   try simp only [bl] at fb33
   refine o_loadA (wS rfl rfl hb33) rfl Tryz.isAgg27 Tryz.sizeOf27 rfl (by repeat constructor) (by repeat constructor) ?_
   refine o_callQ (wS rfl rfl hb33) rfl Tryz.call21 rfl hri ?_
   refine oN ?_
   exact joins rfl
  refine' o_and trivial trivial rfl rfl rfl rfl rfl rfl rfl rfl (fun hb37 => ?_) ?_
  rotate_left
  ·
   have fb37 := hb37
   try simp only [bl] at fb37
   refine o_loadA (wS rfl rfl hb37) rfl Tryz.isAgg27 Tryz.sizeOf27 rfl (by repeat constructor) (by repeat constructor) ?_
   refine o_callI (wS rfl rfl hb37) rfl Tryz.call23 rfl hhe ?_
   rintro _ I7 hx7 hs7
   refine o_buildSl (wS rfl rfl hb37) rfl Tryz.underlying37 Tryz.sizeOf3 Tryz.zeroValue3 (by decide) (by decide) rfl (by repeat first | exact rfl | constructor) rfl (fun b40 => ?_)
   refine l_sealB .here (fun I8 hx8 hb40 => ?_)
   refine o_callQ (wS rfl rfl hb37) rfl Tryz.call22 rfl (ints_any _ _ [1, 1, 2, 3] (hs7.le hx8.le) (Slc.of_box (sz := 1) (xss := nss [1, 1, 2, 3]) (c := 4) hb40 (nss_one _) (by decide) (by decide))) ?_
   refine oN ?_
   exact joinsW rfl (fun _ h => (h.sort (by repeat constructor)).fewer ((hx7.le).trans hx8.le))
  refine oV ?_
  refine oN (tC (cT ?_))
  refine ret1 rfl rfl ?_
  exact leaf (hx1.trans (hx2.trans (hx3.trans (hx4.trans (hx5.trans hx6 (Nat.le_refl _)) (Nat.le_refl _)) (Nat.le_refl _)) (Nat.le_refl _)) (Nat.le_refl _)) (List.nil_sublist _) (congrArg Value.bool (by simp))
theorem TreeParses_any (s : ByteArray) {I : Hp} (hT : Tabs I) (hM : Mx I) (hE : Errs I) : Fun Tryz.prog 3 [.string s] I [] (fun v _ _ => v = .bool true) := by
  intro w hw
  refine enter1 _ Tryz.func3 rfl Tryz.ntmps3 rfl ?_ hw
  refine cS (cR ?_)
  refine oV ?_
  refine oN (tC (cS (cR ?_)))
  refine o_callQ trivial rfl Tryz.call14 rfl (awake11_any hT hM hE) ?_
  refine oV ?_
  refine oN (tC (cS (cS (cR ?_))))
  refine oV ?_
  refine o_lenS trivial rfl Tryz.underlying9 rfl ?_
  refine oV ?_
  refine oN (tC ?_)
  refine cC rfl (fun h1 => ?_) (fun h1 => ?_)
  ·
   have f1 := h1
   try simp only [bl] at f1
   refine cS (cR ?_)
   iterate 2 refine oV ?_
   refine oN (tC (cT (tR ?_)))
   refine ret1 rfl rfl ?_
   exact leaf0 rfl
  have f1 := h1
  try simp only [bl] at f1
  refine cK (tC (cS (cR ?_)))
  refine oV ?_
  refine o_callI trivial rfl Tryz.call15 rfl (parse_any s hT hM hE (by omega)) ?_
  rintro _ I1 hx1 ⟨vi, vl, vo, va, ns, rfl, hp, hf⟩
  refine oV ?_
  have hsi := hp.si
  have hsl := hp.sl
  have hso := hp.so
  have hsa := hp.sa
  iterate 3 refine oV ?_
  refine o_alloc trivial rfl Tryz.zeroValue27 rfl (fun b4 => ?_)
  refine o_alloc trivial rfl Tryz.zeroValue29 rfl (fun b5 => ?_)
  refine oS Tryz.sizeOf27 ?_
  refine oS Tryz.sizeOf29 ?_
  refine oV ?_
  refine oN (tC (cS (cR ?_)))
  refine oV ?_
  refine o_callI trivial rfl Tryz.call16 rfl (rrParse_any s (by omega)) ?_
  rintro _ I2 hx2 ⟨ui, ul, uo, ua, ms, rfl, hq, hg⟩
  refine oV ?_
  have gsi := hq.si
  have gsl := hq.sl
  have gso := hq.so
  have gsa := hq.sa
  iterate 3 refine oV ?_
  refine o_alloc trivial rfl Tryz.zeroValue27 rfl (fun b7 => ?_)
  refine o_alloc trivial rfl Tryz.zeroValue29 rfl (fun b8 => ?_)
  refine oS Tryz.sizeOf27 ?_
  refine oS Tryz.sizeOf29 ?_
  refine oV ?_
  refine oN (tC (cS (cR ?_)))
  refine oV ?_
  refine' o_and trivial trivial rfl rfl rfl rfl rfl rfl rfl rfl (fun hb28 => ?_) ?_
  rotate_left
  ·
   iterate 3 refine o_pv (wS rfl rfl hb28) rfl rfl ?_
   refine oN ?_
   exact joins rfl
  refine' o_and trivial trivial rfl rfl rfl rfl rfl rfl rfl rfl (fun hb33 => ?_) ?_
  rotate_left
  ·
   have fb33 := hb33
   try simp only [bl] at fb33
   iterate 2 refine o_loadA (wS rfl rfl hb33) rfl Tryz.isAgg29 Tryz.sizeOf29 rfl (by repeat constructor) (by repeat constructor) ?_
   refine o_eqlV (wS rfl rfl hb33) rfl rfl rfl Tryz.eqGuardType29 (EqV.struct Tryz.underlying29 Tryz.stoodInHeld29 (EqP.cons (T := 3) (o := 0) (by decide) rfl rfl (.one Tryz.isAgg3 (by repeat constructor)) (.one Tryz.isAgg3 (by repeat constructor)) (EqV.int Tryz.underlying3) (EqP.last (T := 3) (o := 1) (by decide) rfl rfl (.one Tryz.isAgg3 (by repeat constructor)) (.one Tryz.isAgg3 (by repeat constructor)) (EqV.int Tryz.underlying3)))) ?_
   refine oN ?_
   exact joins rfl
  refine' o_and trivial trivial rfl rfl rfl rfl rfl rfl rfl rfl (fun hb38 => ?_) ?_
  rotate_left
  ·
   have fb38 := hb38
   try simp only [bl] at fb38
   iterate 2 refine o_loadA (wS rfl rfl hb38) rfl Tryz.isAgg27 Tryz.sizeOf27 rfl (by repeat constructor) (by repeat constructor) ?_
   refine o_callQ (wS rfl rfl hb38) rfl Tryz.call17 rfl (rrSame_any _ _ _ _ _ _ _ _ _ _ _ (hp.le hx2.le) hq) ?_
   refine oN ?_
   exact joins rfl
  refine oV ?_
  refine oN (tC (cT ?_))
  refine ret1 rfl rfl ?_
  refine leaf (hx1.trans hx2 (Nat.le_refl _)) (List.nil_sublist _) (congrArg Value.bool ?_)
  simp
end Go.Proofs.YtmgpifkekofacaaGreatDoor
