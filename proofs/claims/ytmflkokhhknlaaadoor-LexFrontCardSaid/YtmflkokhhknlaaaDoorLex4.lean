/-
  Chapter 10: numbers.
-/
import Derived.Test.YtmflkokhhknlaaaDoorLex3
import Derived.Test.YtmflkokhhknlaaaDoorLexPlain2
namespace Go.Proofs.YtmflkokhhknlaaaDoor
open Go Go.Tw
set_option linter.unusedVariables false
set_option linter.unusedSimpArgs false
set_option linter.unnecessarySimpa false
set_option maxHeartbeats 1000000
/-- The library's own number that Index looks at: some int. -/
def Mx (I : Hp) : Prop := ∃ m, I.cell? ⟨2, 0, none⟩ = some (.int .i64 m)
theorem Mx.le {I I' : Hp} (h : Mx I) (hl : I.Le I') : Mx I' := let ⟨m, hm⟩ := h; ⟨m, hl.cell hm⟩
theorem cut_any (s : ByteArray) {I : Hp} (hM : Mx I) (hs : s.size ≤ 100000) : Fun Tryd.prog 48 [.string s, .string ⟨#[124]⟩] I [] (fun v _ _ => v = .tuple #[.string (s.extract 0 (cutZ s)), .string (s.extract (cutZ s + 1) s.size), .bool (decide (cutZ s < s.size))]) := by
  obtain ⟨m, hm⟩ := hM
  refine fun_below fun w hw => ?_
  refine (Tryd.strings_Cut s ⟨#[124]⟩ m w (by omega) (Hp.In.cell hw hm)).mono ?_
  rintro e w' ⟨rfl, n, rfl⟩
  obtain ⟨h1, h2, h3⟩ := cut_stroke s
  exact ⟨_, rfl, by rw [h1, h2, h3], ⟨rfl, rfl, rfl, Nat.le_refl _, fun _ _ => rfl⟩⟩
def preZ (s : ByteArray) : Bool := decide (0 < s.size) && decide ((s.get! 0).toNat = 124)
theorem pre_eq (s : ByteArray) (h : 0 < s.size) : ((s.extract 0 1).toList == (ByteArray.mk #[124]).toList) = decide ((s.get! 0).toNat = 124) := by
  have e : (s.extract 0 1).data.toList = [s.get! 0] := by
    have hg := list_get s 0 h
    rw [List.drop_zero] at hg
    have hx := congrArg (fun x : ByteArray => x.data.toList) (Lib.extract_eq s 0 1)
    simp only at hx
    rw [hx, List.drop_zero, hg]
    rfl
  rw [Bool.eq_iff_iff, beq_iff_eq, decide_eq_true_eq, ByteArray.toList_eq, ByteArray.toList_eq, e]
  constructor
  · intro h1
    have := (List.cons.inj h1).1
    rw [this]; rfl
  · intro h1
    have : s.get! 0 = 124 := UInt8.toNat_inj.1 h1
    rw [this]
theorem hasPrefix_any (s : ByteArray) (hs : s.size ≤ 100000) : PureC Tryd.prog 71 [.string s, .string ⟨#[124]⟩] (.bool (preZ s)) := by
  intro w
  refine enter2 _ Tryd.func71 rfl Tryd.ntmps71 rfl ?_ (S := fun w1 => w1 = w) rfl
  refine c_seq ?_
  refine c_region ?_
  refine o_pv trivial rfl rfl ?_
  refine o_nil ?_
  refine then_c ?_
  refine c_seq ?_
  refine c_region ?_
  refine o_pv trivial rfl rfl ?_
  refine o_lenS trivial rfl Tryd.underlying9 rfl ?_
  refine o_pv trivial rfl rfl ?_
  refine o_lenS trivial rfl Tryd.underlying9 rfl ?_
  refine o_pv trivial rfl rfl ?_
  refine' o_and trivial trivial rfl rfl rfl rfl rfl rfl rfl rfl (fun hb10 => ?_) ?_
  rotate_left
  · skip
    have fb10 := hb10
    try simp only [Bool.or_eq_true, Bool.and_eq_true, Bool.or_eq_false_iff, Bool.and_eq_false_iff, decide_eq_true_eq, decide_eq_false_iff_not, beq_iff_eq, beq_eq_false_iff_ne, bne_iff_ne, bne_eq_false_iff_eq, Bool.not_eq_true', Bool.not_eq_false', ne_eq, Int.not_lt, Int.not_le, ge_iff_le, gt_iff_lt] at fb10
    refine o_pv (wants_some rfl rfl hb10) rfl rfl ?_
    refine o_pv (wants_some rfl rfl hb10) rfl rfl ?_
    refine o_lenS (wants_some rfl rfl hb10) rfl Tryd.underlying9 rfl ?_
    refine o_sliceS2 (wants_some rfl rfl hb10) rfl Tryd.underlying9 rfl rfl (by omega) ?_
    refine o_pv (wants_some rfl rfl hb10) rfl rfl ?_
    refine o_pv (wants_some rfl rfl hb10) rfl rfl ?_
    refine o_nil ?_
    exact joins rfl
  refine o_pv trivial rfl rfl ?_
  refine o_nil ?_
  refine then_c ?_
  refine c_ret ?_
  refine ret1 rfl rfl ?_
  refine fun _ hw => ⟨congrArg Value.bool ?_, hw⟩; unfold preZ; rcases Nat.lt_or_ge 0 s.size with h | h
  · rw [← pre_eq s h, decide_eq_true h, decide_eq_true (by show ((1 : Nat) : Int) ≤ (s.size : Int); omega)]; rfl
  · rw [decide_eq_false (p := 0 < s.size) (by omega), decide_eq_false (by show ¬ ((1 : Nat) : Int) ≤ (s.size : Int); omega)]; rfl
theorem litePrefix_any (s : ByteArray) (hs : s.size ≤ 100000) : PureC Tryd.prog 67 [.string s, .string ⟨#[124]⟩] (.tuple #[.string (if preZ s then s.extract 1 s.size else s), .bool (preZ s)]) := by
  have hpre : preZ s = true → 0 < s.size := fun h => by unfold preZ at h; simp only [Bool.and_eq_true, decide_eq_true_eq] at h; exact h.1
  intro w
  refine enter2 _ Tryd.func67 rfl Tryd.ntmps67 rfl ?_ (S := fun w1 => w1 = w) rfl
  refine c_seq ?_
  refine c_region ?_
  refine o_pv trivial rfl rfl ?_
  refine o_pv trivial rfl rfl ?_
  refine o_nil ?_
  refine then_c ?_
  refine c_seq ?_
  refine c_seq ?_
  refine c_region ?_
  refine o_pv trivial rfl rfl ?_
  refine o_pv trivial rfl rfl ?_
  refine o_callP trivial rfl Tryd.call71 rfl (hasPrefix_any _ (by omega)) ?_
  refine o_pv trivial rfl rfl ?_
  refine o_nil ?_
  refine then_c ?_
  refine c_cond rfl (fun h1 => ?_) (fun h1 => ?_)
  · skip
    have f1 := h1
    try simp only [Bool.or_eq_true, Bool.and_eq_true, Bool.or_eq_false_iff, Bool.and_eq_false_iff, decide_eq_true_eq, decide_eq_false_iff_not, beq_iff_eq, beq_eq_false_iff_ne, bne_iff_ne, bne_eq_false_iff_eq, Bool.not_eq_true', Bool.not_eq_false', ne_eq, Int.not_lt, Int.not_le, ge_iff_le, gt_iff_lt] at f1
    refine c_seq ?_
    refine c_region ?_
    refine o_pv trivial rfl rfl ?_
    refine o_pv trivial rfl rfl ?_
    refine o_pv trivial rfl rfl ?_
    refine o_nil ?_
    refine then_c ?_
    refine c_ret ?_
    refine then_r ?_
    refine ret2 rfl rfl rfl ?_
    refine fun _ hw => ⟨?_, hw⟩; rw [f1]; rfl
  · skip
    have f1 := h1
    try simp only [Bool.or_eq_true, Bool.and_eq_true, Bool.or_eq_false_iff, Bool.and_eq_false_iff, decide_eq_true_eq, decide_eq_false_iff_not, beq_iff_eq, beq_eq_false_iff_ne, bne_iff_ne, bne_eq_false_iff_eq, Bool.not_eq_true', Bool.not_eq_false', ne_eq, Int.not_lt, Int.not_le, ge_iff_le, gt_iff_lt] at f1
    have h2 := hpre f1
    refine c_skip ?_
    refine then_c ?_
    refine c_seq ?_
    refine c_region ?_
    refine o_pv trivial rfl rfl ?_
    refine o_pv trivial rfl rfl ?_
    refine o_lenS trivial rfl Tryd.underlying9 rfl ?_
    refine o_sliceS1 trivial rfl Tryd.underlying9 rfl rfl (by (show 0 ≤ ((1 : Nat) : Int) ∧ ((1 : Nat) : Int) ≤ s.size); omega) ?_
    refine o_pv trivial rfl rfl ?_
    refine o_pv trivial rfl rfl ?_
    refine o_nil ?_
    refine then_c ?_
    refine c_ret ?_
    refine ret2 rfl rfl rfl ?_
    refine fun _ hw => ⟨?_, hw⟩; rw [f1]; rfl
theorem cutPrefix_any (s : ByteArray) (hs : s.size ≤ 100000) : PureC Tryd.prog 65 [.string s, .string ⟨#[124]⟩] (.tuple #[.string (if preZ s then s.extract 1 s.size else s), .bool (preZ s)]) := by
  intro w
  refine enter2 _ Tryd.func65 rfl Tryd.ntmps65 rfl ?_ (S := fun w1 => w1 = w) rfl
  refine c_seq ?_
  refine c_region ?_
  refine o_pv trivial rfl rfl ?_
  refine o_pv trivial rfl rfl ?_
  refine o_nil ?_
  refine then_c ?_
  refine c_seq ?_
  refine c_region ?_
  refine o_pv trivial rfl rfl ?_
  refine o_pv trivial rfl rfl ?_
  refine o_callP trivial rfl Tryd.call67 rfl (litePrefix_any _ (by omega)) ?_
  refine o_pv trivial rfl rfl ?_
  refine o_pv trivial rfl rfl ?_
  refine o_pv trivial rfl rfl ?_
  refine o_pv trivial rfl rfl ?_
  refine o_nil ?_
  refine then_c ?_
  refine c_ret ?_
  refine ret2 rfl rfl rfl ?_
  exact fun _ hw => ⟨rfl, hw⟩
theorem number_any (s : ByteArray) {I : Hp} (hM : Mx I) (hs : s.size ≤ 60000) : Fun Tryd.prog 30 [.string s] I [] (fun v _ _ => v = .bool (numZ s)) := by
  have hc := cutZ_le s
  intro w hw
  refine enter1 _ Tryd.func30 rfl Tryd.ntmps30 rfl ?_ hw
  refine c_seq ?_
  refine c_region ?_
  refine o_pv trivial rfl rfl ?_
  refine o_nil ?_
  refine then_c ?_
  refine c_seq ?_
  refine c_region ?_
  refine o_pv trivial rfl rfl ?_
  refine o_callQ trivial rfl Tryd.call48 rfl (cut_any _ hM (by first | omega | (simp; omega))) ?_
  refine o_pv trivial rfl rfl ?_
  refine o_pv trivial rfl rfl ?_
  refine o_pv trivial rfl rfl ?_
  refine o_pv trivial rfl rfl ?_
  refine o_pv trivial rfl rfl ?_
  refine o_pv trivial rfl rfl ?_
  refine o_pv trivial rfl rfl ?_
  refine o_nil ?_
  refine then_c ?_
  refine c_seq ?_
  refine c_region ?_
  refine o_pv trivial rfl rfl ?_
  refine o_callQ trivial rfl Tryd.call49 rfl (part_any _ (by first | omega | (simp; omega))) ?_
  refine' o_and trivial trivial rfl rfl rfl rfl rfl rfl rfl rfl (fun hb14 => ?_) ?_
  rotate_left
  · skip
    have fb14 := hb14
    try simp only [Bool.or_eq_true, Bool.and_eq_true, Bool.or_eq_false_iff, Bool.and_eq_false_iff, decide_eq_true_eq, decide_eq_false_iff_not, beq_iff_eq, beq_eq_false_iff_ne, bne_iff_ne, bne_eq_false_iff_eq, Bool.not_eq_true', Bool.not_eq_false', ne_eq, Int.not_lt, Int.not_le, ge_iff_le, gt_iff_lt] at fb14
    refine o_pv (wants_some rfl rfl hb14) rfl rfl ?_
    refine o_pv (wants_some rfl rfl hb14) rfl rfl ?_
    refine' o_or (wants_some rfl rfl hb14) (wants_some rfl rfl hb14) rfl rfl rfl rfl rfl rfl rfl rfl (fun hb17 => ?_) ?_
    rotate_left
    · skip
      have fb17 := hb17
      try simp only [Bool.or_eq_true, Bool.and_eq_true, Bool.or_eq_false_iff, Bool.and_eq_false_iff, decide_eq_true_eq, decide_eq_false_iff_not, beq_iff_eq, beq_eq_false_iff_ne, bne_iff_ne, bne_eq_false_iff_eq, Bool.not_eq_true', Bool.not_eq_false', ne_eq, Int.not_lt, Int.not_le, ge_iff_le, gt_iff_lt] at fb17
      refine o_pv (wants_some rfl rfl hb17) rfl rfl ?_
      refine o_callQ (wants_some rfl rfl hb17) rfl Tryd.call49 rfl (part_any _ (by first | omega | (simp; omega))) ?_
      refine' o_and (wants_some rfl rfl hb17) (wants_some rfl rfl hb17) rfl rfl rfl rfl rfl rfl rfl rfl (fun hb20 => ?_) ?_
      rotate_left
      · skip
        refine o_pv (wants_some rfl rfl hb20) rfl rfl ?_
        refine o_pv (wants_some rfl rfl hb20) rfl rfl ?_
        refine o_nil ?_
        exact joins rfl
      refine o_nil ?_
      exact joins rfl
    refine o_nil ?_
    exact joins rfl
  refine o_pv trivial rfl rfl ?_
  refine o_nil ?_
  refine then_c ?_
  refine c_ret ?_
  refine ret1 rfl rfl ?_
  refine leaf0 (congrArg Value.bool ?_); unfold numZ; by_cases h : cutZ s = s.size
  · rw [if_pos h, h]; simp
  · rw [if_neg h, decide_eq_true (by omega)]; simp [Bool.and_assoc]
theorem tail_run (s : ByteArray) (A : Nat) (hA : A ≤ s.size) (hs : s.size ≤ 60000) : ∃ T, (if preZ (s.extract A s.size) then (s.extract A s.size).extract 1 (s.extract A s.size).size else s.extract A s.size) = T ∧ T.size ≤ 60000 ∧ runAt isDigit T 0 ≤ 60000 ∧
    (preZ (s.extract A s.size) = true → A < s.size ∧ (s.get! A).toNat = 124 ∧ runAt isDigit T 0 + (A + 1) = runAt isDigit s (A + 1)) ∧ (preZ (s.extract A s.size) = false → ¬ (A < s.size ∧ (s.get! A).toNat = 124)) := by
  have hsz : (s.extract A s.size).size = s.size - A := by simp
  have hg : ∀ j, (s.extract A s.size).get! j = s.get! (A + j) := fun j => get_tail s A j hA
  refine ⟨_, rfl, ?_, ?_, ?_, ?_⟩
  · split <;> simp <;> omega
  · refine Nat.le_trans (runAt_le isDigit _ 0 (Nat.zero_le _)) ?_
    split <;> simp <;> omega
  · intro h
    rw [if_pos h]
    unfold preZ at h
    simp only [Bool.and_eq_true, decide_eq_true_eq] at h
    rw [hg, Nat.add_zero] at h
    refine ⟨by omega, h.2, ?_⟩
    rw [hsz, ByteArray.extract_extract, show min (A + (s.size - A)) s.size = s.size by omega]
    exact runAt_tail isDigit s (A + 1) (by omega)
  · intro h hh
    unfold preZ at h
    rw [hg, Nat.add_zero, decide_eq_true (by omega), decide_eq_true hh.2] at h
    cases h
theorem numR_any (b : Nat) (s : ByteArray) (i : Nat) {I : Hp} (hM : Mx I) (hi : i < s.size) (hk : kAt s i = 2) (hs : s.size ≤ 60000) : Fun Tryd.prog 55 [.pointer (some ⟨b, 0, none⟩)] I [rdr b s i] (fun v I' B => v = rdTok s i ∧ B = [rdr b s (numEnd s i)] ∧ I = I') := by
  have ht := runAt_tail isDigit s i (by omega)
  have hge := runAt_ge isDigit s i (by omega)
  have hle := runAt_le isDigit s i (by omega)
  have hne := numEnd_ge s i (by omega)
  have e : i + (((runAt isDigit (s.extract i s.size) 0 : Nat) : Int)).toNat = runAt isDigit s i := by rw [Int.toNat_natCast]; omega
  obtain ⟨T, hT, hTs, hTr, hyes, hno⟩ := tail_run s (runAt isDigit s i) hle hs
  have hle2 : runAt isDigit s i < s.size → runAt isDigit s (runAt isDigit s i + 1) ≤ s.size := fun h => runAt_le isDigit s _ (by omega)
  have htsz : (s.extract i (numEnd s i)).size = numEnd s i - i := by simp; omega
  have hcl := cutZ_le (s.extract i (numEnd s i))
  have hsz1 : ((s.extract i (numEnd s i)).extract 0 (cutZ (s.extract i (numEnd s i)))).size = cutZ (s.extract i (numEnd s i)) := by rw [ByteArray.size_extract]; omega
  have hsz2 : ((s.extract i (numEnd s i)).extract (cutZ (s.extract i (numEnd s i)) + 1) (s.extract i (numEnd s i)).size).size = (s.extract i (numEnd s i)).size - (cutZ (s.extract i (numEnd s i)) + 1) := by rw [ByteArray.size_extract]; omega
  intro w hw
  refine enter1 _ Tryd.func55 rfl Tryd.ntmps55 rfl ?_ hw
  refine c_seq ?_
  refine c_region ?_
  refine o_alloc trivial rfl Tryd.zeroValue45 rfl (fun b2 => ?_)
  refine o_pv trivial rfl rfl ?_
  refine o_nil ?_
  refine then_c ?_
  refine c_seq ?_
  refine c_region ?_
  refine o_pv trivial rfl rfl ?_
  refine o_pv trivial rfl rfl ?_
  refine o_callK trivial rfl Tryd.call43 rfl (rest_any b s i (by omega)) (by repeat' first | exact Takes.nil | exact Take.here | apply Takes.cons | apply Take.there) ?_
  rintro _ _ _ hxr ⟨rfl, rfl, rfl⟩
  refine o_callQ trivial rfl Tryd.call42 rfl (by first | exact run_any _ _ isWord letters_any Tryd.call64 (by first | omega | (simp; omega)) | exact run_any _ _ isDigit digits_any Tryd.call61 (by first | omega | (simp; omega)) | exact run_any _ _ isBlank blanks_any Tryd.call44 (by first | omega | (simp; omega))) ?_
  refine o_callK trivial rfl Tryd.call41 rfl (take_any b s i ((runAt isDigit (s.extract i s.size) 0 : Nat) : Int) (by omega) (by omega)) (by repeat' first | exact Takes.nil | exact Take.here | apply Takes.cons | apply Take.there) ?_
  rintro _ _ _ hxt ⟨rfl, rfl, rfl⟩
  refine o_pv trivial rfl rfl ?_
  refine o_nil ?_
  refine then_c ?_
  refine c_cut (ι := Unit) [2] (.cons rfl .nil) (fun x E0 => (4, .string (s.extract i (numEnd s i))) :: E0) (fun x => St w (keysOf [rdr b s i]) I [rdr b s (numEnd s i), .box b2 (.cells #[.int .i64 0, .string ⟨#[]⟩, .int .i64 0, .int .i64 0] 45 (0, 0))]) (fun x => True) ?_ ?_
  · skip
    refine c_seq ?_
    rw [e]
    refine c_region ?_
    refine o_pv trivial rfl rfl ?_
    refine o_callK trivial rfl Tryd.call43 rfl (rest_any b s (runAt isDigit s i) (by omega)) (by repeat' first | exact Takes.nil | exact Take.here | apply Takes.cons | apply Take.there) ?_
    rintro _ _ _ hxr2 ⟨rfl, rfl, rfl⟩
    refine o_callP trivial rfl Tryd.call65 rfl (cutPrefix_any _ (by first | omega | (simp; omega))) ?_
    refine o_pv trivial rfl rfl ?_
    refine o_pv trivial rfl rfl ?_
    refine o_pv trivial rfl rfl ?_
    refine o_pv trivial rfl rfl ?_
    refine o_pv trivial rfl rfl ?_
    refine o_nil ?_
    refine then_c ?_
    refine c_seq ?_
    rw [hT]
    refine c_region ?_
    refine o_pv trivial rfl rfl ?_
    refine' o_and trivial trivial rfl rfl rfl rfl rfl rfl rfl rfl (fun hb22 => ?_) ?_
    rotate_left
    · skip
      have fb22 := hb22
      try simp only [Bool.or_eq_true, Bool.and_eq_true, Bool.or_eq_false_iff, Bool.and_eq_false_iff, decide_eq_true_eq, decide_eq_false_iff_not, beq_iff_eq, beq_eq_false_iff_ne, bne_iff_ne, bne_eq_false_iff_eq, Bool.not_eq_true', Bool.not_eq_false', ne_eq, Int.not_lt, Int.not_le, ge_iff_le, gt_iff_lt] at fb22
      refine o_pv (wants_some rfl rfl hb22) rfl rfl ?_
      refine o_callQ (wants_some rfl rfl hb22) rfl Tryd.call42 rfl (run_any _ _ isDigit digits_any Tryd.call61 (by omega)) ?_
      refine o_pv (wants_some rfl rfl hb22) rfl rfl ?_
      refine o_nil ?_
      exact joins rfl
    refine o_nil ?_
    refine then_c ?_
    refine c_cond rfl (fun h1 => ?_) (fun h1 => ?_)
    · skip
      have f1 := h1
      try simp only [Bool.or_eq_true, Bool.and_eq_true, Bool.or_eq_false_iff, Bool.and_eq_false_iff, decide_eq_true_eq, decide_eq_false_iff_not, beq_iff_eq, beq_eq_false_iff_ne, bne_iff_ne, bne_eq_false_iff_eq, Bool.not_eq_true', Bool.not_eq_false', ne_eq, Int.not_lt, Int.not_le, ge_iff_le, gt_iff_lt] at f1
      have hy := hyes f1.1; have hl3 := hle2 hy.1
      have hn : numEnd s i = runAt isDigit s i + (1 + ((runAt isDigit T 0 : Nat) : Int)).toNat := by unfold numEnd; rw [if_pos ⟨hy.1, hy.2.1, by omega⟩]; omega
      have hcat : s.extract i (runAt isDigit s i) ++ s.extract (runAt isDigit s i) (runAt isDigit s i + (1 + ((runAt isDigit T 0 : Nat) : Int)).toNat) = s.extract i (numEnd s i) := by rw [hn, ByteArray.extract_append_extract, Nat.min_eq_left (by omega), Nat.max_eq_right (by omega)]
      refine c_region ?_
      refine o_pv trivial rfl rfl ?_
      refine o_pv trivial rfl rfl ?_
      refine o_pv trivial rfl rfl ?_
      refine o_callQ trivial rfl Tryd.call42 rfl (run_any _ _ isDigit digits_any Tryd.call61 (by omega)) ?_
      first | (refine o_add trivial rfl rfl rfl ?_ ?_; (omega)) | refine o_pv trivial rfl rfl ?_
      refine o_callK trivial rfl Tryd.call41 rfl (take_any b s (runAt isDigit s i) (1 + ((runAt isDigit T 0 : Nat) : Int)) (by omega) (by omega)) (by repeat' first | exact Takes.nil | exact Take.here | apply Takes.cons | apply Take.there) ?_
      rintro _ _ _ hxt2 ⟨rfl, rfl, rfl⟩
      refine o_cat trivial rfl rfl rfl (by first | omega | (simp only [ByteArray.size_append, lit_size, strOf_size, List.size_toArray, List.length_cons, List.length_nil]; omega) | (simp; omega)) ?_
      refine o_pv trivial rfl rfl ?_
      refine o_nil ?_
      first | exact meet () (by rw [hn0]; exact (sub_cons rfl (sub_cons rfl sub_nil))) (fun _ h => by rw [hn0]; exact h.sort (by repeat' first | exact Takes.nil | exact Take.here | apply Takes.cons | apply Take.there)) trivial | exact meet () (by rw [← hcat]; exact (sub_cons rfl (sub_cons rfl sub_nil))) (fun _ h => by rw [hn]; exact h.sort (by repeat' first | exact Takes.nil | exact Take.here | apply Takes.cons | apply Take.there)) trivial
    · skip
      have f1 := h1
      try simp only [Bool.or_eq_true, Bool.and_eq_true, Bool.or_eq_false_iff, Bool.and_eq_false_iff, decide_eq_true_eq, decide_eq_false_iff_not, beq_iff_eq, beq_eq_false_iff_ne, bne_iff_ne, bne_eq_false_iff_eq, Bool.not_eq_true', Bool.not_eq_false', ne_eq, Int.not_lt, Int.not_le, ge_iff_le, gt_iff_lt] at f1
      have hn0 : numEnd s i = runAt isDigit s i := by
        unfold numEnd
        rw [if_neg]
        intro hh
        cases hp : preZ (s.extract (runAt isDigit s i) s.size) with
        | false => exact hno hp ⟨hh.1, hh.2.1⟩
        | true =>
          have hy := hyes hp
          rcases f1 with f1 | f1
          · rw [hp] at f1; cases f1
          · omega
      refine c_skip ?_
      first | exact meet () (by rw [hn0]; exact (sub_cons rfl (sub_cons rfl sub_nil))) (fun _ h => by rw [hn0]; exact h.sort (by repeat' first | exact Takes.nil | exact Take.here | apply Takes.cons | apply Take.there)) trivial | exact meet () (by rw [← hcat]; exact (sub_cons rfl (sub_cons rfl sub_nil))) (fun _ h => by rw [hn]; exact h.sort (by repeat' first | exact Takes.nil | exact Take.here | apply Takes.cons | apply Take.there)) trivial
  · skip
    rintro _ _
    try dsimp only
    refine c_seq ?_
    refine c_region ?_
    refine o_pv trivial rfl rfl ?_
    refine o_callQ trivial rfl Tryd.call48 rfl (cut_any _ hM (by first | omega | (simp; omega))) ?_
    refine o_pv trivial rfl rfl ?_
    refine o_pv trivial rfl rfl ?_
    refine o_pv trivial rfl rfl ?_
    refine o_pv trivial rfl rfl ?_
    refine o_pv trivial rfl rfl ?_
    refine o_pv trivial rfl rfl ?_
    refine o_pv trivial rfl rfl ?_
    refine o_nil ?_
    refine then_c ?_
    refine c_seq ?_
    refine c_block ?_
    refine c_seq ?_
    refine c_region ?_
    refine o_pv trivial rfl rfl ?_
    refine o_lenS trivial rfl Tryd.underlying9 rfl ?_
    refine o_pv trivial rfl rfl ?_
    refine' o_or trivial trivial rfl rfl rfl rfl rfl rfl rfl rfl (fun hb44 => ?_) ?_
    rotate_left
    · skip
      have fb44 := hb44
      try simp only [Bool.or_eq_true, Bool.and_eq_true, Bool.or_eq_false_iff, Bool.and_eq_false_iff, decide_eq_true_eq, decide_eq_false_iff_not, beq_iff_eq, beq_eq_false_iff_ne, bne_iff_ne, bne_eq_false_iff_eq, Bool.not_eq_true', Bool.not_eq_false', ne_eq, Int.not_lt, Int.not_le, ge_iff_le, gt_iff_lt] at fb44
      refine o_pv (wants_some rfl rfl hb44) rfl rfl ?_
      refine o_lenS (wants_some rfl rfl hb44) rfl Tryd.underlying9 rfl ?_
      refine o_pv (wants_some rfl rfl hb44) rfl rfl ?_
      refine o_nil ?_
      exact joins rfl
    refine o_pv trivial rfl rfl ?_
    refine o_nil ?_
    refine then_c ?_
    refine c_cond rfl (fun h2 => ?_) (fun h2 => ?_)
    · skip
      have f2 := h2
      try simp only [Bool.or_eq_true, Bool.and_eq_true, Bool.or_eq_false_iff, Bool.and_eq_false_iff, decide_eq_true_eq, decide_eq_false_iff_not, beq_iff_eq, beq_eq_false_iff_ne, bne_iff_ne, bne_eq_false_iff_eq, Bool.not_eq_true', Bool.not_eq_false', ne_eq, Int.not_lt, Int.not_le, ge_iff_le, gt_iff_lt] at f2
      refine c_seq ?_
      refine c_region ?_
      refine o_buildS trivial rfl (bld45) rfl .nil ?_
      refine o_store trivial rfl rfl rfl Tryd.sizeOf45 rfl rfl (by first | exact .here | exact .there .here | exact .there (.there .here) | exact .there (.there (.there .here)) | exact .there (.there (.there (.there .here))) | exact .there (.there (.there (.there (.there .here))))) (by repeat constructor) ?_
      refine o_pv trivial rfl rfl ?_
      refine o_nil ?_
      refine then_c ?_
      refine c_ret ?_
      refine blk_r ?_
      refine then_r ?_
      refine retR rfl (.agg Tryd.isAgg45 Tryd.sizeOf45 rfl (by first | exact .head _ | exact .tail _ (.head _) | exact .tail _ (.tail _ (.head _)) | exact .tail _ (.tail _ (.tail _ (.head _))) | exact .tail _ (.tail _ (.tail _ (.tail _ (.head _)))) | exact .tail _ (.tail _ (.tail _ (.tail _ (.tail _ (.head _)))))) rfl (.tmp rfl .nil)) ?_
      refine leaf (Ext.refl _ _) (.cons_cons _ (List.nil_sublist _)) ⟨?_, rfl, rfl⟩; unfold rdTok tokZ; rw [if_neg (by omega), if_pos hk, if_pos (by omega)]; rfl
    · skip
      have f2 := h2
      try simp only [Bool.or_eq_true, Bool.and_eq_true, Bool.or_eq_false_iff, Bool.and_eq_false_iff, decide_eq_true_eq, decide_eq_false_iff_not, beq_iff_eq, beq_eq_false_iff_ne, bne_iff_ne, bne_eq_false_iff_eq, Bool.not_eq_true', Bool.not_eq_false', ne_eq, Int.not_lt, Int.not_le, ge_iff_le, gt_iff_lt] at f2
      refine c_seq ?_
      refine c_region ?_
      refine o_pv trivial rfl rfl ?_
      refine o_callQ trivial rfl Tryd.call30 rfl (number_any _ hM (by first | omega | (simp; omega))) ?_
      refine o_pv trivial rfl rfl ?_
      refine o_pv trivial rfl rfl ?_
      refine o_nil ?_
      refine then_c ?_
      refine c_cond rfl (fun h3 => ?_) (fun h3 => ?_)
      · skip
        have f3 := h3
        try simp only [Bool.or_eq_true, Bool.and_eq_true, Bool.or_eq_false_iff, Bool.and_eq_false_iff, decide_eq_true_eq, decide_eq_false_iff_not, beq_iff_eq, beq_eq_false_iff_ne, bne_iff_ne, bne_eq_false_iff_eq, Bool.not_eq_true', Bool.not_eq_false', ne_eq, Int.not_lt, Int.not_le, ge_iff_le, gt_iff_lt] at f3
        refine c_seq ?_
        refine c_region ?_
        refine o_buildS trivial rfl (bld45) rfl .nil ?_
        refine o_store trivial rfl rfl rfl Tryd.sizeOf45 rfl rfl (by first | exact .here | exact .there .here | exact .there (.there .here) | exact .there (.there (.there .here)) | exact .there (.there (.there (.there .here))) | exact .there (.there (.there (.there (.there .here))))) (by repeat constructor) ?_
        refine o_pv trivial rfl rfl ?_
        refine o_nil ?_
        refine then_c ?_
        refine c_ret ?_
        refine blk_r ?_
        refine then_r ?_
        refine retR rfl (.agg Tryd.isAgg45 Tryd.sizeOf45 rfl (by first | exact .head _ | exact .tail _ (.head _) | exact .tail _ (.tail _ (.head _)) | exact .tail _ (.tail _ (.tail _ (.head _))) | exact .tail _ (.tail _ (.tail _ (.tail _ (.head _)))) | exact .tail _ (.tail _ (.tail _ (.tail _ (.tail _ (.head _)))))) rfl (.tmp rfl .nil)) ?_
        refine leaf (Ext.refl _ _) (.cons_cons _ (List.nil_sublist _)) ⟨?_, rfl, rfl⟩; unfold rdTok tokZ; rw [if_neg (by omega), if_pos hk, if_neg (by omega), if_neg (by rw [f3]; exact Bool.false_ne_true)]; rfl
      · skip
        have f3 := h3
        try simp only [Bool.or_eq_true, Bool.and_eq_true, Bool.or_eq_false_iff, Bool.and_eq_false_iff, decide_eq_true_eq, decide_eq_false_iff_not, beq_iff_eq, beq_eq_false_iff_ne, bne_iff_ne, bne_eq_false_iff_eq, Bool.not_eq_true', Bool.not_eq_false', ne_eq, Int.not_lt, Int.not_le, ge_iff_le, gt_iff_lt] at f3
        refine c_skip ?_
        refine blk_n ?_
        refine then_c ?_
        refine c_seq ?_
        refine c_region ?_
        refine o_pv trivial rfl rfl ?_
        refine o_buildS trivial rfl (bld45) rfl (.cons rfl rfl rfl (by repeat constructor) (.cons rfl rfl rfl (by repeat constructor) .nil)) ?_
        refine o_store trivial rfl rfl rfl Tryd.sizeOf45 rfl rfl (by first | exact .here | exact .there .here | exact .there (.there .here) | exact .there (.there (.there .here)) | exact .there (.there (.there (.there .here))) | exact .there (.there (.there (.there (.there .here))))) (by repeat constructor) ?_
        refine o_pv trivial rfl rfl ?_
        refine o_nil ?_
        refine then_c ?_
        refine c_ret ?_
        refine retR rfl (.agg Tryd.isAgg45 Tryd.sizeOf45 rfl (by first | exact .head _ | exact .tail _ (.head _) | exact .tail _ (.tail _ (.head _)) | exact .tail _ (.tail _ (.tail _ (.head _))) | exact .tail _ (.tail _ (.tail _ (.tail _ (.head _)))) | exact .tail _ (.tail _ (.tail _ (.tail _ (.tail _ (.head _)))))) rfl (.tmp rfl .nil)) ?_
        refine leaf (Ext.refl _ _) (.cons_cons _ (List.nil_sublist _)) ⟨?_, rfl, rfl⟩; unfold rdTok tokZ; rw [if_neg (by omega), if_pos hk, if_neg (by omega), if_pos f3]; rfl
end Go.Proofs.YtmflkokhhknlaaaDoor
