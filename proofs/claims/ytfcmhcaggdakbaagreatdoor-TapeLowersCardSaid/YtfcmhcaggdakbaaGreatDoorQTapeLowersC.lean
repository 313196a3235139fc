/-
  TapeLowers, part 3: the texts Lex3, Lex4, Lex5, Read, Read2, Read3, Atoi, Lex2, Law10, Tree6, Tape, Tree7, Tree8, Arr2, Tape2, Right, Right2, Right3, Parse as one.
-/
import Derived.Test.YtfcmhcaggdakbaaGreatDoorQTapeLowersB
import Derived.Lib.AtoiAllCases
open Go.Proofs.Tryz
set_option linter.unusedVariables false
set_option linter.unusedSimpArgs false
set_option linter.unnecessarySimpa false
set_option maxHeartbeats 1000000
namespace Go.Proofs.YtfcmhcaggdakbaaGreatDoor
open Go Go.Tw
theorem qy0 (k : Int) : yp prog 164 [.int .i64 k] (.bool (yk k)) := by
 intro w
 refine qn _ func164 rfl ntmps164 rfl ?_ (S := fun w1 => w1 = w) rfl;refine sR ?_;refine oV ?_;refine nS ?_;iterate 2 refine oV ?_
 refine' oZ (fun hb5 => ?_) ?_;rotate_left
 ·
  iterate 2 refine gV hb5 ?_
  refine oN ?_;exact qa rfl
 refine oV ?_;refine nE ?_;refine ret1 rfl rfl ?_;exact fun _ hw => ⟨rfl,hw⟩
theorem qhs (k : Int) : yp prog 165 [.int .i64 k] (.bool (qj k)) := by
 intro w
 refine qn _ func165 rfl ntmps165 rfl ?_ (S := fun w1 => w1 = w) rfl;refine sR ?_;refine oV ?_;refine nS ?_;iterate 3 refine oV ?_
 refine nE ?_;refine ret1 rfl rfl ?_;exact fun _ hw => ⟨rfl,hw⟩
theorem qy1 (k : Int) : yp prog 101 [.int .i64 k] (.bool (v6 k)) := by
 intro w
 refine qn _ func101 rfl ntmps101 rfl ?_ (S := fun w1 => w1 = w) rfl;refine sR ?_;refine oV ?_;refine nS ?_;iterate 3 refine oV ?_
 refine nE ?_;refine ret1 rfl rfl ?_;exact fun _ hw => ⟨rfl,hw⟩
theorem qen (s : ByteArray) (F : FuncId) (p : Int → Bool) {I : Hp} (hF : ∀ k,yp prog F [.int .i64 k] (.bool (p k))) (hcall : ∀ args w,(callFunc F args).run prog w = .ok (.enter F args) w) (hs : s.size ≤ 100000) : Fun prog 99 [.string s,.func (.func F) #[] #[]] I [] (fun v _ _ => v = .int .i64 (qf p s 0)) := by
 intro w hw
 refine qz _ func99 rfl ntmps99 rfl ?_ hw;refine sR ?_;refine oV ?_;refine nU ?_;refine oV ?_;refine qfi trivial rfl underlying9 rfl (fun b8 => ?_);refine oN (tC (cB ?_));refine qt (ι := Nat) [0,1,8] (.cons rfl (.cons rfl (.cons rfl .nil))) (fun x => s.size - x) (fun x E0 => E0) (fun x => St w [] I [.box b8 (.stringIter s x)]) (fun x => x ≤ s.size ∧ qf p s 0 = qf p s x) (0) (sC rfl (sC rfl (sC rfl sN))) (fun _ h => h) (⟨Nat.zero_le _,rfl⟩) ?_;rintro i ⟨hle,hF'⟩
 try dsimp only
 have hwd := yx s i
 refine cS ?_
 rcases Nat.lt_or_ge i s.size with hp | hp
 ·
  refine cR ?_;refine qfj trivial rfl rfl (by repeat constructor) hp ?_;refine oV ?_;refine oN (tC (cS ?_));refine zp rfl rfl ?_;refine cK (tC (cB (sR ?_)));iterate 4 refine oV ?_
  refine nS ?_;iterate 2 refine oV ?_
  refine oP trivial rfl call43 rfl (qhc _) ?_;refine quy trivial rfl rfl hcall rfl rfl (hF _) ?_;refine oV ?_;refine nT ?_;refine cC rfl (fun h2 => ?_) (fun h2 => ?_)
  ·
   have f2 := h2;try simp only [bl] at f2
   refine sR ?_;iterate 2 refine oV ?_
   refine oN (tC (cT (qb (tR (qb (tR ?_))))));refine ret1 rfl rfl ?_;refine qe ?_; rw [hF',qao hp f2]; rfl
  have f2 := h2;try simp only [bl] at f2
  refine cK (qg ?_)
  have hwi := zx s i hp; exact ql _ (sC rfl (sC rfl (sC rfl sN))) (fun _ h => h) (by show s.size - (i + (Utf8.decode s i).2) < s.size - i; omega) ⟨hwi,hF'.trans (qap hp f2)⟩
 refine cR ?_;refine qfk trivial rfl rfl (by repeat constructor) hp ?_;refine oV ?_;refine oN (tC (cS ?_));refine qaf rfl rfl ?_;refine qp (qc (qc (qo rfl (tC (sR ?_)))));refine oV ?_;refine yj trivial rfl underlying9 rfl ?_;refine oV ?_;refine nE ?_;refine ret1 rfl rfl ?_;refine qe ?_; rw [hF',qan hp]
abbrev rdr (b : Nat) (s : ByteArray) (i : Nat) : Tw.Item := .box b (.cells #[.string s,.int .i64 (i : Int)] 151 (0,0))
theorem qeo (b : Nat) (s : ByteArray) (i : Nat) {I : Hp} (hi : i ≤ s.size) : Fun prog 100 [.pointer (some ⟨b,0,none⟩)] I [rdr b s i] (fun v I' B => v = .string (s.extract i s.size) ∧ B = [rdr b s i] ∧ I = I') := by
 unfold rdr
 intro w hw
 refine qn _ func100 rfl ntmps100 rfl ?_ hw;refine sR ?_;refine oV ?_;refine oN (tC (cS ?_));refine jf (by kernel_rfl) (by kernel_rfl) (fun _ h => h.drawn) ?_;iterate 2 refine oV ?_
 refine oF 0 underlying151 sizeOf9 ?_;refine oL isAgg9 ?_;iterate 2 refine oV ?_
 refine oF 1 underlying151 sizeOf3 ?_;refine oL isAgg3 ?_;refine qi1 trivial rfl underlying9 rfl rfl (by omega) ?_;refine oV ?_;refine nE ?_;refine ret1 rfl rfl ?_;refine leaf (Ext.refl _ _) (List.Sublist.refl _) ⟨?_,rfl,rfl⟩; rw [Int.toNat_natCast]
theorem qf3 (b : Nat) (s : ByteArray) (i : Nat) (n : Int) {I : Hp} (hi : 0 ≤ n ∧ i + n ≤ s.size) (hs : s.size ≤ 100000) : Fun prog 98 [.pointer (some ⟨b,0,none⟩),.int .i64 n] I [rdr b s i] (fun v I' B => v = .string (s.extract i (i + n.toNat)) ∧ B = [rdr b s (i + n.toNat)] ∧ I = I') := by
 intro w hw
 refine qz _ func98 rfl ntmps98 rfl ?_ hw;refine sR ?_;refine oV ?_;refine nS ?_;refine oV ?_;refine oC trivial rfl call100 rfl (qeo b s i (by omega)) (by repeat constructor) ?_;rintro _ _ _ hx1 ⟨rfl,rfl,rfl⟩;refine oV ?_;refine qnh trivial rfl underlying9 rfl rfl (by simp; omega) ?_;refine oV ?_;refine nS ?_;iterate 2 refine oV ?_
 refine oF 1 underlying151 sizeOf3 ?_;refine oL isAgg3 ?_;refine oV ?_
 (refine qh trivial rfl rfl rfl ?_ ?_; (omega))
 refine oV ?_;refine oF 1 underlying151 sizeOf3 ?_;refine oS sizeOf3 ?_;refine nS ?_;iterate 2 refine oV ?_
 refine nE ?_;refine ret1 rfl rfl ?_;refine leaf (Ext.refl _ _) (List.Sublist.refl _) ⟨?_,?_,rfl⟩
 · show Value.string _ = _
   rw [ByteArray.extract_extract,Nat.add_zero,Nat.min_eq_left (by omega)]
 · unfold rdr
   rw [show ((i + n.toNat : Nat) : Int) = i + n by omega]
   rfl
def qas (s : ByteArray) (i : Nat) : Value := .tuple #[.agg #[.int .i64 (tokZ s i).kind,.string (tokZ s i).text,.int .i64 0,.int .i64 0],.int .i64 (tokZ s i).err]
theorem qy2 (b : Nat) (s : ByteArray) (i : Nat) {I : Hp} (hi : i < s.size) (hk : kAt s i = 1) (hs : s.size ≤ 60000) : Fun prog 134 [.pointer (some ⟨b,0,none⟩)] I [rdr b s i] (fun v I' B => v = qas s i ∧ B = [rdr b s (qf yk s i)] ∧ I = I') := by
 have ht := qhk yk s i (by omega)
 have hge := qdj yk s i (by omega)
 have hle := qaq yk s i (by omega)
 have hsz : (s.extract i (qf yk s i)).size = qf yk s i - i := by simp; omega
 have e : i + (((qf yk (s.extract i s.size) 0 : Nat) : Int)).toNat = qf yk s i := by rw [Int.toNat_natCast]; omega
 intro w hw
 refine qn _ func134 rfl ntmps134 rfl ?_ hw;refine sR ?_;refine qq trivial rfl zeroValue103 rfl (fun b2 => ?_);refine oV ?_;refine nS ?_;iterate 2 refine oV ?_
 refine oC trivial rfl call100 rfl (qeo b s i (by omega)) (by repeat constructor) ?_;rintro _ _ _ hxr ⟨rfl,rfl,rfl⟩;refine oQ call99 rfl (by (exact qen _ _ yk qy0 call164 (by (simp; omega)))) ?_;refine oC trivial rfl call98 rfl (qf3 b s i ((qf yk (s.extract i s.size) 0 : Nat) : Int) (by omega) (by omega)) (by repeat constructor) ?_;rintro _ _ _ hxt ⟨rfl,rfl,rfl⟩;refine oV ?_;refine oN (tC (cS (cS ?_)))
 rw [e]
 refine cR ?_;refine oV ?_;refine yj trivial rfl underlying9 rfl ?_;refine oV ?_;refine nT ?_;refine cC rfl (fun h1 => ?_) (fun h1 => ?_)
 ·
  have f1 := h1;try simp only [bl] at f1
  refine sR ?_;refine qw trivial rfl (qch) rfl .nil ?_;refine oS sizeOf103 ?_;refine oV ?_;refine nF ?_;refine retR rfl (.agg isAgg103 sizeOf103 rfl (by repeat constructor) rfl (.tmp rfl .nil)) ?_;refine leaf (Ext.refl _ _) (.cons_cons _ (List.nil_sublist _)) ⟨?_,rfl,rfl⟩; unfold qas tokZ; rw [if_pos hk,if_pos (by omega)]; rfl
 have f1 := h1;try simp only [bl] at f1
 refine kS ?_;refine oV ?_;refine qw trivial rfl (qch) rfl (.cons rfl rfl rfl (by repeat constructor) (.cons rfl rfl rfl (by repeat constructor) .nil)) ?_;refine oS sizeOf103 ?_;refine oV ?_;refine nE ?_;refine retR rfl (.agg isAgg103 sizeOf103 rfl (by repeat constructor) rfl (.tmp rfl .nil)) ?_;refine leaf (Ext.refl _ _) (.cons_cons _ (List.nil_sublist _)) ⟨?_,rfl,rfl⟩; unfold qas tokZ; rw [if_pos hk,if_neg (by omega)]; rfl
theorem qy3 (b : Nat) (s : ByteArray) (i : Nat) {I : Hp} (hi : i < s.size) (hk : kAt s i = 4) (hs : s.size ≤ 60000) : Fun prog 136 [.pointer (some ⟨b,0,none⟩)] I [rdr b s i] (fun v I' B => v = qas s i ∧ B = [rdr b s (i + 1)] ∧ I = I') := by
 have h1 := qpc hk
 intro w hw
 refine qn _ func136 rfl ntmps136 rfl ?_ hw;refine sR ?_;refine qq trivial rfl zeroValue103 rfl (fun b2 => ?_);refine oV ?_;refine nS ?_;refine oV ?_;refine oC trivial rfl call98 rfl (qf3 b s i 1 (by omega) (by omega)) (by repeat constructor) ?_;rintro _ _ _ hxt ⟨rfl,rfl,rfl⟩;refine qw trivial rfl (qch) rfl (.cons rfl rfl rfl (by repeat constructor) (.cons rfl rfl rfl (by repeat constructor) .nil)) ?_;refine oS sizeOf103 ?_;refine oV ?_;refine nE ?_;refine retR rfl (.agg isAgg103 sizeOf103 rfl (by repeat constructor) rfl (.tmp rfl .nil)) ?_;refine leaf (Ext.refl _ _) (.cons_cons _ (List.nil_sublist _)) ⟨?_,rfl,rfl⟩; unfold qas tokZ; rw [if_neg (by omega),if_neg (by omega),if_pos hk,h1]; rfl
theorem qy4 (b : Nat) (s : ByteArray) (i : Nat) {I : Hp} (hi : i < s.size) (h1 : kAt s i ≠ 1) (h2 : kAt s i ≠ 2) (h4 : kAt s i ≠ 4) : Fun prog 137 [.pointer (some ⟨b,0,none⟩)] I [rdr b s i] (fun v I' B => v = qas s i ∧ B = [rdr b s i] ∧ I = I') := by
 intro w hw
 refine qn _ func137 rfl ntmps137 rfl ?_ hw;refine sR ?_;refine qq trivial rfl zeroValue103 rfl (fun b2 => ?_);refine oV ?_;refine nS ?_;refine qw trivial rfl (qch) rfl .nil ?_;refine oS sizeOf103 ?_;refine oV ?_;refine nE ?_;refine retR rfl (.agg isAgg103 sizeOf103 rfl (by repeat constructor) rfl (.tmp rfl .nil)) ?_;refine leaf (Ext.refl _ _) (.cons _ (.cons_cons _ (List.nil_sublist _))) ⟨?_,rfl,rfl⟩; unfold qas tokZ; rw [if_neg h1,if_neg h2,if_neg h4]; rfl
theorem qpx (s : ByteArray) {I : Hp} (hs : s.size ≤ 60000) : Fun prog 194 [.string s] I [] (fun v _ _ => v = .bool (jm s)) := by
 intro w hw
 refine qn _ func194 rfl ntmps194 rfl ?_ hw;refine sR ?_;refine oV ?_;refine nS ?_;iterate 2 refine oV ?_
 refine' oY (fun hb5 => ?_) ?_;rotate_left
 ·
  have fb5 := hb5
  try simp only [bl] at fb5
  refine gV hb5 ?_;refine yj (wS rfl rfl hb5) rfl underlying9 rfl ?_;refine gV hb5 ?_;refine oN ?_;exact qa rfl
 refine' oY (fun hb10 => ?_) ?_;rotate_left
 ·
  have fb10 := hb10
  try simp only [bl] at fb10
  refine gV hb10 ?_;refine yd (wS rfl rfl hb10) rfl call99 rfl (by exact qen _ _ qj qhs call165 (by omega)) ?_;refine gV hb10 ?_;refine yj (wS rfl rfl hb10) rfl underlying9 rfl ?_;refine gV hb10 ?_;refine oN ?_;exact qa rfl
 refine' oY (fun hb17 => ?_) ?_;rotate_left
 ·
  have fb17 := hb17
  try simp only [bl] at fb17
  refine gV hb17 ?_;refine qag (wS rfl rfl hb17) rfl underlying9 rfl rfl (by have hn := mt qcj.2 fb17.1.1; omega) ?_;refine gV hb17 ?_;refine' o_or (wS rfl rfl hb17) (wS rfl rfl hb17) rfl rfl rfl rfl rfl rfl rfl rfl (fun hb21 => ?_) ?_;rotate_left
  ·
   have fb21 := hb21
   try simp only [bl] at fb21
   refine gV hb21 ?_;refine yj (wS rfl rfl hb21) rfl underlying9 rfl ?_;refine gV hb21 ?_;refine oN ?_;exact qa rfl
  refine oN ?_;exact qa rfl
 refine oV ?_;refine nE ?_;refine ret1 rfl rfl ?_;refine qe (congrArg Value.bool ?_); rw [Bool.eq_iff_iff]; unfold jm; simp only [Bool.and_eq_true,Bool.or_eq_true,decide_eq_true_eq,beq_iff_eq,bne_iff_ne,Int.toNat_zero,ne_eq,Bool.not_eq_true',beq_eq_false_iff_ne,qcj]; omega
def Mx (I : Hp) : Prop := ∃ m,I.cell? ⟨0,0,none⟩ = some (.int .i64 m)
theorem Mx.le {I I' : Hp} (h : Mx I) (hl : I.Le I') : Mx I' := let ⟨m,hm⟩ := h; ⟨m,hl.cell hm⟩
theorem qkg (s : ByteArray) {I : Hp} (hM : Mx I) (hs : s.size ≤ 100000) : Fun prog 167 [.string s,.string ⟨#[124]⟩] I [] (fun v _ _ => v = .tuple #[.string (s.extract 0 (cutZ s)),.string (s.extract (cutZ s + 1) s.size),.bool (decide (cutZ s < s.size))]) := by
 obtain ⟨m,hm⟩ := hM
 refine qhb fun w hw => ?_;refine (Tryz.strings_Cut s ⟨#[124]⟩ m w (by omega) (Hp.In.cell hw hm)).mono ?_;rintro e w' ⟨rfl,n,rfl⟩
 obtain ⟨h1,h2,h3⟩ := qys s
 exact ⟨_,rfl,by rw [h1,h2,h3],⟨rfl,rfl,rfl,Nat.le_refl _,fun _ _ => rfl⟩⟩
def preZ (s : ByteArray) : Bool := decide (0 < s.size) && decide ((s.get! 0).toNat = 124)
theorem qy5 (s : ByteArray) (h : 0 < s.size) : ((s.extract 0 1).toList == (ByteArray.mk #[124]).toList) = decide ((s.get! 0).toNat = 124) := by
 have e : (s.extract 0 1).data.toList = [s.get! 0] := by
   have hg := qek s 0 h
   rw [List.drop_zero] at hg
   have hx := congrArg (fun x : ByteArray => x.data.toList) (Lib.extract_eq s 0 1)
   simp only at hx
   rw [hx,List.drop_zero,hg]
   rfl
 rw [Bool.eq_iff_iff,beq_iff_eq,decide_eq_true_eq,ByteArray.toList_eq,ByteArray.toList_eq,e]
 constructor
 · intro h1
   have := (List.cons.inj h1).1
   rw [this]; rfl
 · intro h1
   have : s.get! 0 = 124 := UInt8.toNat_inj.1 h1
   rw [this]
theorem qy6 (s : ByteArray) (hs : s.size ≤ 100000) : yp prog 213 [.string s,.string ⟨#[124]⟩] (.bool (preZ s)) := by
 intro w
 refine qz _ func213 rfl ntmps213 rfl ?_ (S := fun w1 => w1 = w) rfl;refine sR ?_;refine oV ?_;refine nS ?_;refine oV ?_;refine yj trivial rfl underlying9 rfl ?_;refine oV ?_;refine yj trivial rfl underlying9 rfl ?_;refine oV ?_;refine' oY (fun hb10 => ?_) ?_;rotate_left
 ·
  have fb10 := hb10
  try simp only [bl] at fb10
  iterate 2 refine gV hb10 ?_
  refine yj (wS rfl rfl hb10) rfl underlying9 rfl ?_;refine qnh (wS rfl rfl hb10) rfl underlying9 rfl rfl (by omega) ?_;iterate 2 refine gV hb10 ?_
  refine oN ?_;exact qa rfl
 refine oV ?_;refine nE ?_;refine ret1 rfl rfl ?_;refine fun _ hw => ⟨congrArg Value.bool ?_,hw⟩; unfold preZ; rcases Nat.lt_or_ge 0 s.size with h | h
 · rw [← qy5 s h,decide_eq_true h,decide_eq_true (by show ((1 : Nat) : Int) ≤ (s.size : Int); omega)]; rfl
 · rw [decide_eq_false (p := 0 < s.size) (by omega),decide_eq_false (by show ¬ ((1 : Nat) : Int) ≤ (s.size : Int); omega)]; rfl
theorem qy7 (s : ByteArray) (hs : s.size ≤ 100000) : yp prog 192 [.string s,.string ⟨#[124]⟩] (.tuple #[.string (if preZ s then s.extract 1 s.size else s),.bool (preZ s)]) := by
 have hpre : preZ s = true → 0 < s.size := fun h => by unfold preZ at h; simp only [Bool.and_eq_true,decide_eq_true_eq] at h; exact h.1
 intro w
 refine qz _ func192 rfl ntmps192 rfl ?_ (S := fun w1 => w1 = w) rfl;refine sR ?_;iterate 2 refine oV ?_
 refine nU ?_;iterate 2 refine oV ?_
 refine oP trivial rfl call213 rfl (qy6 _ (by omega)) ?_;refine oV ?_;refine nT ?_;refine cC rfl (fun h1 => ?_) (fun h1 => ?_)
 ·
  have f1 := h1;try simp only [bl] at f1
  refine sR ?_;iterate 3 refine oV ?_
  refine nF ?_;refine ret2 rfl rfl rfl ?_;refine fun _ hw => ⟨?_,hw⟩; rw [f1]; rfl
 have f1 := h1;try simp only [bl] at f1
 have h2 := hpre f1
 refine kS ?_;iterate 2 refine oV ?_
 refine yj trivial rfl underlying9 rfl ?_;refine qi1 trivial rfl underlying9 rfl rfl (by (show 0 ≤ ((1 : Nat) : Int) ∧ ((1 : Nat) : Int) ≤ s.size); omega) ?_;iterate 2 refine oV ?_
 refine nE ?_;refine ret2 rfl rfl rfl ?_;refine fun _ hw => ⟨?_,hw⟩; rw [f1]; rfl
theorem qy8 (s : ByteArray) (hs : s.size ≤ 100000) : yp prog 166 [.string s,.string ⟨#[124]⟩] (.tuple #[.string (if preZ s then s.extract 1 s.size else s),.bool (preZ s)]) := by
 intro w
 refine qz _ func166 rfl ntmps166 rfl ?_ (S := fun w1 => w1 = w) rfl;refine sR ?_;iterate 2 refine oV ?_
 refine nS ?_;iterate 2 refine oV ?_
 refine oP trivial rfl call192 rfl (qy7 _ (by omega)) ?_;iterate 4 refine oV ?_
 refine nE ?_;refine ret2 rfl rfl rfl ?_;exact fun _ hw => ⟨rfl,hw⟩
theorem qy9 (s : ByteArray) {I : Hp} (hM : Mx I) (hs : s.size ≤ 60000) : Fun prog 168 [.string s] I [] (fun v _ _ => v = .bool (numZ s)) := by
 have hc := qbo s
 intro w hw
 refine qn _ func168 rfl ntmps168 rfl ?_ hw;refine sR ?_;refine oV ?_;refine nS ?_;refine oV ?_;refine oQ call167 rfl (qkg _ hM (by omega)) ?_;iterate 7 refine oV ?_
 refine nS ?_;refine oV ?_;refine oQ call194 rfl (qpx _ (by (simp; omega))) ?_;refine' oY (fun hb14 => ?_) ?_;rotate_left
 ·
  have fb14 := hb14
  try simp only [bl] at fb14
  iterate 2 refine gV hb14 ?_
  refine' o_or (wS rfl rfl hb14) (wS rfl rfl hb14) rfl rfl rfl rfl rfl rfl rfl rfl (fun hb17 => ?_) ?_;rotate_left
  ·
   have fb17 := hb17
   try simp only [bl] at fb17
   refine gV hb17 ?_;refine yd (wS rfl rfl hb17) rfl call194 rfl (qpx _ (by (simp; omega))) ?_;refine' qbc (wS rfl rfl hb17) (wS rfl rfl hb17) rfl rfl rfl rfl rfl rfl rfl rfl (fun hb20 => ?_) ?_;rotate_left
   ·
    iterate 2 refine gV hb20 ?_
    refine oN ?_;exact qa rfl
   refine oN ?_;exact qa rfl
  refine oN ?_;exact qa rfl
 refine oV ?_;refine nE ?_;refine ret1 rfl rfl ?_;refine qe (congrArg Value.bool ?_); unfold numZ; by_cases h : cutZ s = s.size
 · rw [if_pos h,h]; simp
 · rw [if_neg h,decide_eq_true (by omega)]; simp [Bool.and_assoc]
theorem qza (s : ByteArray) (A : Nat) (hA : A ≤ s.size) (hs : s.size ≤ 60000) : ∃ T, (if preZ (s.extract A s.size) then (s.extract A s.size).extract 1 (s.extract A s.size).size else s.extract A s.size) = T ∧ T.size ≤ 60000 ∧ qf qj T 0 ≤ 60000 ∧
   (preZ (s.extract A s.size) = true → A < s.size ∧ (s.get! A).toNat = 124 ∧ qf qj T 0 + (A + 1) = qf qj s (A + 1)) ∧ (preZ (s.extract A s.size) = false → ¬ (A < s.size ∧ (s.get! A).toNat = 124)) := by
 have hsz : (s.extract A s.size).size = s.size - A := by simp
 have hg : ∀ j,(s.extract A s.size).get! j = s.get! (A + j) := fun j => qea s A j hA
 refine ⟨_,rfl,?_,?_,?_,?_⟩
 · split <;> simp <;> omega
 · refine Nat.le_trans (qaq qj _ 0 (Nat.zero_le _)) ?_
   split <;> simp <;> omega
 · intro h
   rw [if_pos h]
   unfold preZ at h
   simp only [Bool.and_eq_true,decide_eq_true_eq] at h
   rw [hg,Nat.add_zero] at h
   refine ⟨by omega,h.2,?_⟩
   rw [hsz,ByteArray.extract_extract,show min (A + (s.size - A)) s.size = s.size by omega]
   exact qhk qj s (A + 1) (by omega)
 · intro h hh
   unfold preZ at h
   rw [hg,Nat.add_zero,decide_eq_true (by omega),decide_eq_true hh.2] at h
   cases h
theorem qzb (b : Nat) (s : ByteArray) (i : Nat) {I : Hp} (hM : Mx I) (hi : i < s.size) (hk : kAt s i = 2) (hs : s.size ≤ 60000) : Fun prog 135 [.pointer (some ⟨b,0,none⟩)] I [rdr b s i] (fun v I' B => v = qas s i ∧ B = [rdr b s (vg s i)] ∧ I = I') := by
 have ht := qhk qj s i (by omega)
 have hge := qdj qj s i (by omega)
 have hle := qaq qj s i (by omega)
 have hne := qhm s i (by omega)
 have e : i + (((qf qj (s.extract i s.size) 0 : Nat) : Int)).toNat = qf qj s i := by rw [Int.toNat_natCast]; omega
 obtain ⟨T,hT,hTs,hTr,hyes,hno⟩ := qza s (qf qj s i) hle hs
 have hle2 : qf qj s i < s.size → qf qj s (qf qj s i + 1) ≤ s.size := fun h => qaq qj s _ (by omega)
 have htsz : (s.extract i (vg s i)).size = vg s i - i := by simp; omega
 have hcl := qbo (s.extract i (vg s i))
 have hsz1 : ((s.extract i (vg s i)).extract 0 (cutZ (s.extract i (vg s i)))).size = cutZ (s.extract i (vg s i)) := by rw [ByteArray.size_extract]; omega
 have hsz2 : ((s.extract i (vg s i)).extract (cutZ (s.extract i (vg s i)) + 1) (s.extract i (vg s i)).size).size = (s.extract i (vg s i)).size - (cutZ (s.extract i (vg s i)) + 1) := by rw [ByteArray.size_extract]; omega
 intro w hw
 refine qn _ func135 rfl ntmps135 rfl ?_ hw;refine sR ?_;refine qq trivial rfl zeroValue103 rfl (fun b2 => ?_);refine oV ?_;refine nS ?_;iterate 2 refine oV ?_
 refine oC trivial rfl call100 rfl (qeo b s i (by omega)) (by repeat constructor) ?_;rintro _ _ _ hxr ⟨rfl,rfl,rfl⟩;refine oQ call99 rfl (by (exact qen _ _ qj qhs call165 (by (simp; omega)))) ?_;refine oC trivial rfl call98 rfl (qf3 b s i ((qf qj (s.extract i s.size) 0 : Nat) : Int) (by omega) (by omega)) (by repeat constructor) ?_;rintro _ _ _ hxt ⟨rfl,rfl,rfl⟩;refine oV ?_;refine nT ?_;refine zh (ι := Unit) [2] (.cons rfl .nil) (fun x E0 => (4,.string (s.extract i (vg s i))) :: E0) (fun x => St w (jb [rdr b s i]) I [rdr b s (vg s i),.box b2 (.cells #[.int .i64 0,.string ⟨#[]⟩,.int .i64 0,.int .i64 0] 103 (0,0))]) (fun x => True) ?_ ?_
 ·
  refine cS ?_
  rw [e]
  refine cR ?_;refine oV ?_;refine oC trivial rfl call100 rfl (qeo b s (qf qj s i) (by omega)) (by repeat constructor) ?_;rintro _ _ _ hxr2 ⟨rfl,rfl,rfl⟩;refine oP trivial rfl call166 rfl (qy8 _ (by (simp; omega))) ?_;iterate 5 refine oV ?_
  refine oN (tC (cS ?_))
  rw [hT]
  refine cR ?_;refine oV ?_;refine' oY (fun hb22 => ?_) ?_;rotate_left
  ·
   have fb22 := hb22
   try simp only [bl] at fb22
   refine gV hb22 ?_;refine yd (wS rfl rfl hb22) rfl call99 rfl (qen _ _ qj qhs call165 (by omega)) ?_;refine gV hb22 ?_;refine oN ?_;exact qa rfl
  refine nT ?_;refine cC rfl (fun h1 => ?_) (fun h1 => ?_)
  ·
   have f1 := h1;try simp only [bl] at f1
   have hy := hyes f1.1; have hl3 := hle2 hy.1
   have hn : vg s i = qf qj s i + (1 + ((qf qj T 0 : Nat) : Int)).toNat := by unfold vg; rw [if_pos ⟨hy.1,hy.2.1,by omega⟩]; omega
   have hcat : s.extract i (qf qj s i) ++ s.extract (qf qj s i) (qf qj s i + (1 + ((qf qj T 0 : Nat) : Int)).toNat) = s.extract i (vg s i) := by rw [hn,ByteArray.extract_append_extract,Nat.min_eq_left (by omega),Nat.max_eq_right (by omega)]
   refine cR ?_;iterate 3 refine oV ?_
   refine oQ call99 rfl (qen _ _ qj qhs call165 (by omega)) ?_
   (refine qh trivial rfl rfl rfl ?_ ?_; (omega))
   refine oC trivial rfl call98 rfl (qf3 b s (qf qj s i) (1 + ((qf qj T 0 : Nat) : Int)) (by omega) (by omega)) (by repeat constructor) ?_;rintro _ _ _ hxt2 ⟨rfl,rfl,rfl⟩;refine qni trivial rfl rfl rfl (by (simp; omega)) ?_;refine oV ?_;refine oN ?_
   (exact meet () (by rw [← hcat]; exact (sC rfl (sC rfl sN))) (fun _ h => by rw [hn]; exact h.sort (by repeat constructor)) trivial)
  have f1 := h1;try simp only [bl] at f1
  have hn0 : vg s i = qf qj s i := by
    unfold vg
    rw [if_neg]
    intro hh
    cases hp : preZ (s.extract (qf qj s i) s.size) with
    | false => exact hno hp ⟨hh.1,hh.2.1⟩
    | true =>
      have hy := hyes hp
      rcases f1 with f1 | f1
      · rw [hp] at f1; cases f1
      · omega
  refine cK ?_
  (exact meet () (by rw [hn0]; exact (sC rfl (sC rfl sN))) (fun _ h => by rw [hn0]; exact h.sort (by repeat constructor)) trivial)
 rintro _ _
 try dsimp only
 refine sR ?_;refine oV ?_;refine oQ call167 rfl (qkg _ hM (by omega)) ?_;iterate 7 refine oV ?_
 refine oN (tC (cS (cB (sR ?_))));refine oV ?_;refine yj trivial rfl underlying9 rfl ?_;refine oV ?_;refine' oZ (fun hb44 => ?_) ?_;rotate_left
 ·
  have fb44 := hb44
  try simp only [bl] at fb44
  refine gV hb44 ?_;refine yj (wS rfl rfl hb44) rfl underlying9 rfl ?_;refine gV hb44 ?_;refine oN ?_;exact qa rfl
 refine oV ?_;refine nT ?_;refine cC rfl (fun h2 => ?_) (fun h2 => ?_)
 ·
  have f2 := h2;try simp only [bl] at f2
  refine sR ?_;refine qw trivial rfl (qch) rfl .nil ?_;refine oS sizeOf103 ?_;refine oV ?_;refine oN (tC (cT (qb (tR ?_))));refine retR rfl (.agg isAgg103 sizeOf103 rfl (by repeat constructor) rfl (.tmp rfl .nil)) ?_;refine leaf (Ext.refl _ _) (.cons_cons _ (List.nil_sublist _)) ⟨?_,rfl,rfl⟩; unfold qas tokZ; rw [if_neg (by omega),if_pos hk,if_pos (by omega)]; rfl
 have f2 := h2;try simp only [bl] at f2
 refine sR ?_;refine oV ?_;refine oQ call168 rfl (qy9 _ hM (by omega)) ?_;iterate 2 refine oV ?_
 refine nT ?_;refine cC rfl (fun h3 => ?_) (fun h3 => ?_)
 ·
  have f3 := h3;try simp only [bl] at f3
  refine sR ?_;refine qw trivial rfl (qch) rfl .nil ?_;refine oS sizeOf103 ?_;refine oV ?_;refine oN (tC (cT (qb (tR ?_))));refine retR rfl (.agg isAgg103 sizeOf103 rfl (by repeat constructor) rfl (.tmp rfl .nil)) ?_;refine leaf (Ext.refl _ _) (.cons_cons _ (List.nil_sublist _)) ⟨?_,rfl,rfl⟩; unfold qas tokZ; rw [if_neg (by omega),if_pos hk,if_neg (by omega),if_neg (by rw [f3]; exact Bool.false_ne_true)]; rfl
 have f3 := h3;try simp only [bl] at f3
 refine cK (qg (tC (sR ?_)));refine oV ?_;refine qw trivial rfl (qch) rfl (.cons rfl rfl rfl (by repeat constructor) (.cons rfl rfl rfl (by repeat constructor) .nil)) ?_;refine oS sizeOf103 ?_;refine oV ?_;refine nE ?_;refine retR rfl (.agg isAgg103 sizeOf103 rfl (by repeat constructor) rfl (.tmp rfl .nil)) ?_;refine leaf (Ext.refl _ _) (.cons_cons _ (List.nil_sublist _)) ⟨?_,rfl,rfl⟩; unfold qas tokZ; rw [if_neg (by omega),if_pos hk,if_neg (by omega),if_pos f3]; rfl
def rdF (k : Int) : FuncId := if k = 1 then 134 else if k = 2 then 135 else if k = 4 then 136 else 137
theorem qzc (k : Int) (args : Array Value) (w : World) : (callFunc (rdF k) args).run prog w = .ok (.enter (rdF k) args) w := by
 unfold rdF
 repeat' split
 · exact call134 args w
 · exact call135 args w
 · exact call136 args w
 · exact call137 args w
theorem qzd (b : Nat) (s : ByteArray) (i : Nat) {I : Hp} (hM : Mx I) (hi : i < s.size) (hs : s.size ≤ 60000) : Fun prog (rdF (kAt s i)) [.pointer (some ⟨b,0,none⟩)] I [rdr b s i] (fun v I' B => v = qas s i ∧ B = [rdr b s (tokZ s i).stop] ∧ I = I') := by
 have hst : (tokZ s i).stop = if kAt s i = 1 then qf yk s i else if kAt s i = 2 then vg s i else if kAt s i = 4 then i + 1 else i := by
   unfold tokZ
   by_cases h1 : kAt s i = 1
   · rw [if_pos h1,if_pos h1]; split <;> rfl
   · rw [if_neg h1, if_neg h1]
     by_cases h2 : kAt s i = 2
     · rw [if_pos h2, if_pos h2]; split
       · rfl
       · split <;> rfl
     · rw [if_neg h2, if_neg h2]
       by_cases h4 : kAt s i = 4
       · rw [if_pos h4,if_pos h4,qpc h4]
       · rw [if_neg h4,if_neg h4]
 rw [hst]
 unfold rdF
 by_cases h1 : kAt s i = 1
 · rw [if_pos h1,if_pos h1]; exact qy2 b s i hi h1 hs
 · rw [if_neg h1, if_neg h1]
   by_cases h2 : kAt s i = 2
   · rw [if_pos h2,if_pos h2]; exact qzb b s i hM hi h2 hs
   · rw [if_neg h2, if_neg h2]
     by_cases h4 : kAt s i = 4
     · rw [if_pos h4,if_pos h4]; exact qy3 b s i hi h4 hs
     · rw [if_neg h4,if_neg h4]; exact qy4 b s i hi h1 h2 h4
theorem qze (s : ByteArray) (i : Nat) {I : Hp} (hT : Tabs I) (hi : i < s.size) : Fun prog 133 [.string s,.int .i64 (i : Int)] I [] (fun v _ _ => v = .tuple #[.int .i32 ((Utf8.decode s i).1 : Int),.int .i64 ((Utf8.decode s i).2 : Int)]) := by
 have h := qws s i (I := I) hT
 rw [qoj hi] at h
 exact h
theorem qzf (b : Nat) (s : ByteArray) (i : Nat) {I : Hp} (hT : Tabs I) (hi : i < s.size) (hs : s.size ≤ 60000) : Fun prog 102 [.pointer (some ⟨b,0,none⟩)] I [rdr b s i] (fun v I' B => v = .func (.func (rdF (kAt s i))) #[.pointer (some ⟨b,0,none⟩)] #[] ∧ B = [rdr b s i] ∧ I = I') := by
 intro w hw
 refine qn _ func102 rfl ntmps102 rfl ?_ hw;refine sR ?_;refine oV ?_;refine oN (tC (cS ?_));refine jf (by kernel_rfl) (by kernel_rfl) (fun _ h => h.drawn) ?_;iterate 2 refine oV ?_
 refine oF 0 underlying151 sizeOf9 ?_;refine oL isAgg9 ?_;iterate 2 refine oV ?_
 refine oF 1 underlying151 sizeOf3 ?_;refine oL isAgg3 ?_;refine oQ call133 rfl (qze _ _ hT hi) ?_;iterate 5 refine oV ?_
 refine nU ?_;refine oV ?_;refine oP trivial rfl call43 rfl (qhc _) ?_;refine oN (tC (cB (sR ?_)));iterate 2 refine oV ?_
 refine nT ?_;refine cC rfl (fun h1 => ?_) (fun h1 => ?_)
 ·
  have f1 := h1;try simp only [bl] at f1
  refine sR ?_;iterate 3 refine oV ?_
  refine oN (tC (cT (qb (tR ?_))));refine ret1 rfl rfl ?_;refine leaf (Ext.refl _ _) (List.Sublist.refl _) ⟨?_,rfl,rfl⟩; unfold rdF; rw [if_pos (show kAt s i = 1 from f1)]
 have f1 := h1;try simp only [bl] at f1
 refine sR ?_;iterate 2 refine oV ?_
 refine nT ?_;refine cC rfl (fun h2 => ?_) (fun h2 => ?_)
 ·
  have f2 := h2;try simp only [bl] at f2
  refine sR ?_;iterate 3 refine oV ?_
  refine oN (tC (cT (qb (tR ?_))));refine ret1 rfl rfl ?_;refine leaf (Ext.refl _ _) (List.Sublist.refl _) ⟨?_,rfl,rfl⟩; unfold rdF; rw [if_neg (show ¬ kAt s i = 1 from f1),if_pos (show kAt s i = 2 from f2)]
 have f2 := h2;try simp only [bl] at f2
 refine sR ?_;iterate 2 refine oV ?_
 refine nT ?_;refine cC rfl (fun h3 => ?_) (fun h3 => ?_)
 ·
  have f3 := h3;try simp only [bl] at f3
  refine sR ?_;iterate 3 refine oV ?_
  refine oN (tC (cT (qb (tR ?_))));refine ret1 rfl rfl ?_;refine leaf (Ext.refl _ _) (List.Sublist.refl _) ⟨?_,rfl,rfl⟩; unfold rdF; rw [if_neg (show ¬ kAt s i = 1 from f1),if_neg (show ¬ kAt s i = 2 from f2),if_pos (show kAt s i = 4 from f3)]
 have f3 := h3;try simp only [bl] at f3
 refine cK (qg (tC (sR ?_)));iterate 3 refine oV ?_
 refine nE ?_;refine ret1 rfl rfl ?_;refine leaf (Ext.refl _ _) (List.Sublist.refl _) ⟨?_,rfl,rfl⟩; unfold rdF; rw [if_neg (show ¬ kAt s i = 1 from f1),if_neg (show ¬ kAt s i = 2 from f2),if_neg (show ¬ kAt s i = 4 from f3)]
abbrev plcB (b : Nat) (p : Int × Int) : Tw.Item := .box b (.cells #[.int .i64 p.1,.int .i64 p.2] 48 (0,0))
abbrev ptrB (b b2 : Nat) : Tw.Item := .box b (.cells #[.pointer (some ⟨b2,0,none⟩)] 149 (0,0))
theorem qpy (b7 b6 br : Nat) (s : ByteArray) (i j : Nat) {I : Hp} (hs : s.size ≤ 60000) (h0 : Hops s 0 i) (h : Hops s i j) (hj : j ≤ s.size) : Fun prog 97 [.int .i64 ((j - i : Nat) : Int),.pointer (some ⟨b7,0,none⟩),.pointer (some ⟨b6,0,none⟩)] I [ptrB b7 br,rdr br s i,plcB b6 (qr s i)] (fun v I' B => v = .tuple #[] ∧ B = [ptrB b7 br,rdr br s j,plcB b6 (qr s j)] ∧ I = I') := by
 have hge := h.ge
 have hmv := qyj h h0 hj
 have hsz : (s.extract i j).size = j - i := by rw [ByteArray.size_extract]; omega
 have ej : i + (((j - i : Nat) : Int)).toNat = j := by rw [Int.toNat_natCast]; omega
 have hbp := qyd s i
 have hbc := (qpi h0).bc
 have hi0 := h.le (s := s) (by have := h.ge; omega)
 intro w hw
 refine j5 _ func97 rfl ntmps97 rfl ?_ hw;refine sR ?_;refine oL isAgg149 ?_;refine oV ?_;refine oC trivial rfl call98 rfl (qf3 br s i ((j - i : Nat) : Int) (by omega) (by omega)) (by repeat constructor) ?_;rintro _ _ _ hx ⟨rfl,rfl,rfl⟩
 rw [ej]; refine oV ?_
 refine oQ call60 rfl (qoi (s.extract i j) ((j - i : Nat) : Int) (by omega)) ?_;refine qq trivial rfl zeroValue48 rfl (fun b4 => ?_);refine oS sizeOf48 ?_;refine nS ?_;refine oF 0 underlying48 sizeOf3 ?_;refine oL isAgg3 ?_;refine oV ?_;refine nT ?_;refine cC rfl (fun h1 => ?_) (fun h1 => ?_)
 ·
  have f1 := h1;try simp only [bl] at f1
  refine cR ?_;refine oF 0 underlying48 sizeOf3 ?_;refine oL isAgg3 ?_;refine oF 0 underlying48 sizeOf3 ?_;refine oL isAgg3 ?_
  (refine qh trivial rfl rfl rfl ?_ ?_; (omega))
  (refine vp trivial rfl rfl rfl ?_ ?_; (omega))
  refine oF 1 underlying48 sizeOf3 ?_;refine oL isAgg3 ?_;refine qw trivial rfl (qda) rfl (.cons rfl rfl rfl (by repeat constructor) (.cons rfl rfl rfl (by repeat constructor) .nil)) ?_;refine oS sizeOf48 ?_;refine oN ?_;refine ret0 rfl ?_;exact fun w' hw' => ⟨I,[ptrB b7 br,rdr br s j,plcB b6 (qr s j)],by rw [hmv.2.2,if_pos f1]; exact hw'.sort (by repeat constructor),Ext.refl _ _,rfl,rfl,rfl⟩
 have f1 := h1;try simp only [bl] at f1
 refine cR ?_;refine oF 1 underlying48 sizeOf3 ?_;refine oL isAgg3 ?_;refine oF 1 underlying48 sizeOf3 ?_;refine oL isAgg3 ?_
 (refine vp trivial rfl rfl rfl ?_ ?_; (omega))
 (refine qh trivial rfl rfl rfl ?_ ?_; (omega))
 refine oF 1 underlying48 sizeOf3 ?_;refine oS sizeOf3 ?_;refine oN ?_;refine ret0 rfl ?_;exact fun w' hw' => ⟨I,[ptrB b7 br,rdr br s j,plcB b6 (qr s j)],by rw [hmv.2.2,if_neg (by omega),Int.add_sub_assoc]; exact hw'.sort (by repeat constructor),Ext.refl _ _,rfl,rfl,rfl⟩
theorem qzg (s : ByteArray) (i : Nat) {I : Hp} (hi : i ≤ s.size) (hs : s.size ≤ 60000) : Fun prog 99 [.string (s.extract i s.size),.func (.func 101) #[] #[]] I [] (fun v _ _ => v = .int .i64 ((qf v6 s i - i : Nat) : Int)) := by
 have h := qen (s.extract i s.size) 101 v6 (I := I) qy1 call101 (by simp; omega)
 have ht := qhk v6 s i hi
 rw [show qf v6 (s.extract i s.size) 0 = qf v6 s i - i by omega] at h
 exact h
theorem qzh (s : ByteArray) {I : Hp} (hT : Tabs I) (hM : Mx I) (hs : s.size ≤ 60000) : Fun prog 57 [.string s] I [] (fun v I' _ => qyz (lexZ s) v I') := by
 rw [qj4 (by omega)]
 intro w hw
 refine qn _ func57 rfl ntmps57 rfl ?_ hw;refine sR ?_;refine oV ?_;refine qq trivial rfl zeroValue48 rfl (fun b3 => ?_);refine oV ?_;refine nU ?_;refine oV ?_;refine yj trivial rfl underlying9 rfl ?_;refine oV ?_;refine nT ?_;refine cC rfl (fun h1 => ?_) (fun h1 => ?_)
 ·
  have f1 := h1;try simp only [bl] at f1
  exfalso; omega
 have f1 := h1;try simp only [bl] at f1
 refine kS ?_;refine oV ?_;refine nS ?_;refine qw trivial rfl (qda) rfl (.cons rfl rfl rfl (by repeat constructor) (.cons rfl rfl rfl (by repeat constructor) .nil)) ?_;refine qq trivial rfl zeroValue48 rfl (fun b6 => ?_);refine oS sizeOf48 ?_;refine nS ?_;refine oV ?_;refine qw trivial rfl (qwf) rfl (.cons rfl rfl rfl (by repeat constructor) .nil) ?_;refine vh trivial rfl rfl rfl (fun b21 => ?_);refine qq trivial rfl zeroValue149 rfl (fun b7 => ?_);refine oS sizeOf149 ?_;refine nS ?_;iterate 2 refine oV ?_
 refine oN (tC (cB ?_));refine qt (ι := Nat × List Tok × Value) [3,6,7,8] (.cons rfl (.cons rfl (.cons rfl (.cons rfl .nil)))) (fun x => s.size - x.1) (fun x E0 => (5,x.2.2) :: E0) (fun x => St w [] I [.row x.2.2 103 4 x.2.1.length (x.2.1.map Tok.cells).flatten,.box b3 (.cells #[.int .i64 0,.int .i64 0] 48 (0,0)),plcB b6 (qr s x.1),ptrB b7 b21,rdr b21 s x.1]) (fun x => x.1 ≤ s.size ∧ Hops s 0 x.1 ∧ z7 s 0 [] = z7 s x.1 x.2.1 ∧ x.2.1.length ≤ 4000) ((0,[],.slice none 0 0)) (sC rfl (sC rfl (sC rfl (sC rfl (sC rfl sN))))) (fun _ h => by have e0 : qr s (((0,[],Value.slice none 0 0) : Nat × List Tok × Value).1 : Int) = (1,1) := qfy s; rw [e0]; exact (h.nilRow 103 4).sort (by repeat constructor)) (⟨Nat.zero_le _,.refl,rfl,Nat.zero_le _⟩) ?_;rintro ⟨i,out,u⟩ ⟨hle,hh,hF,hout⟩
 try dsimp only
 simp only at hle hh hF hout; have hj1 := qdj v6 s i hle; have hj2 := qaq v6 s i hle; have hjs := qcp v6 s s.size i (by omega) hle; have hj0 := hh.trans hjs; have hjn := qpl s s.size i (by omega) hle; rw [qpk s out s.size i (by omega) hle] at hF
 refine cB (sR ?_);refine oV ?_;refine oL isAgg149 ?_;refine oC trivial rfl call100 rfl (qeo b21 s i hle) (by repeat constructor) ?_;rintro _ _ _ hx1 ⟨rfl,rfl,rfl⟩;refine oQ call99 rfl (qzg s i hle hs) ?_;refine qd1 trivial rfl rfl call97 rfl rfl (qpy b7 b6 b21 s i (qf v6 s i) hs hh hjs hj2) (by repeat constructor) ?_;rintro _ _ _ hx2 ⟨rfl,rfl,rfl⟩;refine nU ?_;refine oL isAgg149 ?_;refine oC trivial rfl call100 rfl (qeo b21 s (qf v6 s i) hj2) (by repeat constructor) ?_;rintro _ _ _ hx3 ⟨rfl,rfl,rfl⟩;refine oV ?_;refine nT ?_;refine cC rfl (fun h2 => ?_) (fun h2 => ?_)
 ·
  have f2 := h2;try simp only [bl] at f2
  rw [qcj] at f2; have hsz2 : (s.extract (qf v6 s i) s.size).size = s.size - (qf v6 s i) := by simp
  have hje : s.size ≤ (qf v6 s i) := by omega
  refine sR ?_;refine oV ?_;refine qw trivial rfl (qda) rfl .nil ?_;refine oV ?_;refine oS sizeOf48 ?_;refine oV ?_;refine oN (tC (cT (tR (qb (tR (qb ?_))))));refine retR rfl (.tmp rfl (.agg isAgg48 sizeOf48 rfl (by repeat constructor) rfl (.tmp rfl .nil))) ?_;exact fun w' hw' => qgz (e := 103) (size := 4) (nn := out.length) (u := u) (xss := out.map Tok.cells) (B := []) (by simp) (qyh out) (by unfold maxLen; omega) (fun I' hl hs' => by rw [hF,qj3 (by omega)]; exact ⟨_,rfl,hs'⟩) w' (hw'.sort (by repeat constructor))
 have f2 := h2;try simp only [bl] at f2
 rw [qcj] at f2; have hsz2 : (s.extract (qf v6 s i) s.size).size = s.size - (qf v6 s i) := by simp
 have hj : (qf v6 s i) < s.size := by omega
 refine cK (tC (cS (sR ?_)));refine oV ?_;refine yw trivial rfl underlying95 rfl (by repeat constructor) ?_;refine oV ?_;refine nT ?_;refine cC rfl (fun h3 => ?_) (fun h3 => ?_)
 ·
  have f3 := h3;try simp only [bl] at f3
  refine cS ?_;refine qnn (m := 4) (by kernel_rfl) rfl (fun _ h => h.drawn) ?_;refine a_go [0,1] (by kernel_rfl) rfl (TWs.cons ?_ (TWs.cons ?_ TWs.nil))
  ·
   refine a_op #[true,false,false,false] rfl rfl ?_;refine oA isAgg48 sizeOf48 ?_;refine oN ?_;refine vy ?_;refine a_go [1] (by kernel_rfl) rfl (TWs.cons ?_ TWs.nil);refine a_op #[true,true,false,false] rfl rfl ?_;refine oV ?_;refine oN ?_;refine vy ?_;refine a_go [2] (by kernel_rfl) rfl (TWs.cons ?_ TWs.nil);refine a_op #[true,true,true,false] rfl rfl ?_;refine oS sizeOf48 ?_;refine oN ?_;refine vy ?_;refine a_go [3] (by kernel_rfl) rfl (TWs.cons ?_ TWs.nil);refine a_op #[true,true,true,true] rfl rfl ?_;refine oV ?_;refine oN ?_;refine vy ?_;refine qbe (by kernel_rfl) ?_;refine tC (cT (tR (qb (tR (qb ?_)))));refine retR rfl (.tmp rfl (.agg isAgg48 sizeOf48 rfl (by repeat constructor) rfl (.tmp rfl .nil))) ?_;refine leaf (Ext.refl _ _) (List.nil_sublist _) ?_; rw [hF,j8 hj,if_neg (hjn hj),if_pos (by omega)]; exact ⟨_,rfl,Slc.nil _ _⟩
  refine a_op #[false,true,false,false] rfl rfl ?_;refine oV ?_;refine oN ?_;refine vy ?_;refine a_go [0] (by kernel_rfl) rfl (TWs.cons ?_ TWs.nil);refine a_op #[true,true,false,false] rfl rfl ?_;refine oA isAgg48 sizeOf48 ?_;refine oN ?_;refine vy ?_;refine a_go [2] (by kernel_rfl) rfl (TWs.cons ?_ TWs.nil);refine a_op #[true,true,true,false] rfl rfl ?_;refine oS sizeOf48 ?_;refine oN ?_;refine vy ?_;refine a_go [3] (by kernel_rfl) rfl (TWs.cons ?_ TWs.nil);refine a_op #[true,true,true,true] rfl rfl ?_;refine oV ?_;refine oN ?_;refine vy ?_;refine qbe (by kernel_rfl) ?_;refine tC (cT (tR (qb (tR (qb ?_)))));refine retR rfl (.tmp rfl (.agg isAgg48 sizeOf48 rfl (by repeat constructor) rfl (.tmp rfl .nil))) ?_;refine leaf (Ext.refl _ _) (List.nil_sublist _) ?_; rw [hF,j8 hj,if_neg (hjn hj),if_pos (by omega)]; exact ⟨_,rfl,Slc.nil _ _⟩
 have f3 := h3;try simp only [bl] at f3
 have hcf := qzc (kAt s (qf v6 s i))
 refine kS ?_;refine oL isAgg149 ?_;refine oV ?_;refine oF 1 underlying151 sizeOf3 ?_;refine oL isAgg3 ?_;refine oV ?_;refine nS ?_;refine oL isAgg149 ?_;refine oC trivial rfl call102 rfl (qzf b21 s (qf v6 s i) hT hj hs) (by repeat constructor) ?_;rintro _ _ _ hx4 ⟨rfl,rfl,rfl⟩;refine qd1 trivial rfl rfl hcf rfl rfl (qzd b21 s (qf v6 s i) hM hj hs) (by repeat constructor) ?_;rintro _ _ _ hx5 ⟨rfl,rfl,rfl⟩;iterate 3 refine oV ?_
 refine qq trivial rfl zeroValue103 rfl (fun b10 => ?_);refine oS sizeOf103 ?_;refine oV ?_;refine nU ?_;iterate 2 refine oV ?_
 refine nT ?_;refine cC rfl (fun h4 => ?_) (fun h4 => ?_)
 ·
  have f4 := h4;try simp only [bl] at f4
  refine cS ?_;refine qnn (m := 5) (by kernel_rfl) rfl (fun _ h => h.drawn) ?_;refine a_go [0,1,2] (by kernel_rfl) rfl (TWs.cons ?_ (TWs.cons ?_ (TWs.cons ?_ TWs.nil)))
  ·
   refine a_op #[true,false,false,false,false] rfl rfl ?_;refine oA isAgg48 sizeOf48 ?_;refine oN ?_;refine vy ?_;refine a_go [1,2] (by kernel_rfl) rfl (TWs.cons ?_ (TWs.cons ?_ TWs.nil))
   ·
    refine a_op #[true,true,false,false,false] rfl rfl ?_;refine oV ?_;refine oN ?_;refine vy ?_;refine a_go [2] (by kernel_rfl) rfl (TWs.cons ?_ TWs.nil);refine a_op #[true,true,true,false,false] rfl rfl ?_;refine oV ?_;refine oN ?_;refine vy ?_;refine a_go [3] (by kernel_rfl) rfl (TWs.cons ?_ TWs.nil);refine a_op #[true,true,true,true,false] rfl rfl ?_;refine oS sizeOf48 ?_;refine oN ?_;refine vy ?_;refine a_go [4] (by kernel_rfl) rfl (TWs.cons ?_ TWs.nil);refine a_op #[true,true,true,true,true] rfl rfl ?_;refine oV ?_;refine oN ?_;refine vy ?_;refine qbe (by kernel_rfl) ?_;refine tC (cT (tR (qb (tR (qb ?_)))));refine retR rfl (.tmp rfl (.agg isAgg48 sizeOf48 rfl (by repeat constructor) rfl (.tmp rfl .nil))) ?_;refine leaf (Ext.refl _ _) (List.nil_sublist _) ?_; rw [hF,j8 hj,if_neg (hjn hj),if_neg (by omega),if_pos f4]; exact ⟨_,rfl,Slc.nil _ _⟩
   refine a_op #[true,false,true,false,false] rfl rfl ?_;refine oV ?_;refine oN ?_;refine vy ?_;refine a_go [1,3] (by kernel_rfl) rfl (TWs.cons ?_ (TWs.cons ?_ TWs.nil))
   ·
    refine a_op #[true,true,true,false,false] rfl rfl ?_;refine oV ?_;refine oN ?_;refine vy ?_;refine a_go [3] (by kernel_rfl) rfl (TWs.cons ?_ TWs.nil);refine a_op #[true,true,true,true,false] rfl rfl ?_;refine oS sizeOf48 ?_;refine oN ?_;refine vy ?_;refine a_go [4] (by kernel_rfl) rfl (TWs.cons ?_ TWs.nil);refine a_op #[true,true,true,true,true] rfl rfl ?_;refine oV ?_;refine oN ?_;refine vy ?_;refine qbe (by kernel_rfl) ?_;refine tC (cT (tR (qb (tR (qb ?_)))));refine retR rfl (.tmp rfl (.agg isAgg48 sizeOf48 rfl (by repeat constructor) rfl (.tmp rfl .nil))) ?_;refine leaf (Ext.refl _ _) (List.nil_sublist _) ?_; rw [hF,j8 hj,if_neg (hjn hj),if_neg (by omega),if_pos f4]; exact ⟨_,rfl,Slc.nil _ _⟩
   refine a_op #[true,false,true,true,false] rfl rfl ?_;refine oS sizeOf48 ?_;refine oN ?_;refine vy ?_;refine a_go [1] (by kernel_rfl) rfl (TWs.cons ?_ TWs.nil);refine a_op #[true,true,true,true,false] rfl rfl ?_;refine oV ?_;refine oN ?_;refine vy ?_;refine a_go [4] (by kernel_rfl) rfl (TWs.cons ?_ TWs.nil);refine a_op #[true,true,true,true,true] rfl rfl ?_;refine oV ?_;refine oN ?_;refine vy ?_;refine qbe (by kernel_rfl) ?_;refine tC (cT (tR (qb (tR (qb ?_)))));refine retR rfl (.tmp rfl (.agg isAgg48 sizeOf48 rfl (by repeat constructor) rfl (.tmp rfl .nil))) ?_;refine leaf (Ext.refl _ _) (List.nil_sublist _) ?_; rw [hF,j8 hj,if_neg (hjn hj),if_neg (by omega),if_pos f4]; exact ⟨_,rfl,Slc.nil _ _⟩
  ·
   refine a_op #[false,true,false,false,false] rfl rfl ?_;refine oV ?_;refine oN ?_;refine vy ?_;refine a_go [0,2] (by kernel_rfl) rfl (TWs.cons ?_ (TWs.cons ?_ TWs.nil))
   ·
    refine a_op #[true,true,false,false,false] rfl rfl ?_;refine oA isAgg48 sizeOf48 ?_;refine oN ?_;refine vy ?_;refine a_go [2] (by kernel_rfl) rfl (TWs.cons ?_ TWs.nil);refine a_op #[true,true,true,false,false] rfl rfl ?_;refine oV ?_;refine oN ?_;refine vy ?_;refine a_go [3] (by kernel_rfl) rfl (TWs.cons ?_ TWs.nil);refine a_op #[true,true,true,true,false] rfl rfl ?_;refine oS sizeOf48 ?_;refine oN ?_;refine vy ?_;refine a_go [4] (by kernel_rfl) rfl (TWs.cons ?_ TWs.nil);refine a_op #[true,true,true,true,true] rfl rfl ?_;refine oV ?_;refine oN ?_;refine vy ?_;refine qbe (by kernel_rfl) ?_;refine tC (cT (tR (qb (tR (qb ?_)))));refine retR rfl (.tmp rfl (.agg isAgg48 sizeOf48 rfl (by repeat constructor) rfl (.tmp rfl .nil))) ?_;refine leaf (Ext.refl _ _) (List.nil_sublist _) ?_; rw [hF,j8 hj,if_neg (hjn hj),if_neg (by omega),if_pos f4]; exact ⟨_,rfl,Slc.nil _ _⟩
   refine a_op #[false,true,true,false,false] rfl rfl ?_;refine oV ?_;refine oN ?_;refine vy ?_;refine a_go [0] (by kernel_rfl) rfl (TWs.cons ?_ TWs.nil);refine a_op #[true,true,true,false,false] rfl rfl ?_;refine oA isAgg48 sizeOf48 ?_;refine oN ?_;refine vy ?_;refine a_go [3] (by kernel_rfl) rfl (TWs.cons ?_ TWs.nil);refine a_op #[true,true,true,true,false] rfl rfl ?_;refine oS sizeOf48 ?_;refine oN ?_;refine vy ?_;refine a_go [4] (by kernel_rfl) rfl (TWs.cons ?_ TWs.nil);refine a_op #[true,true,true,true,true] rfl rfl ?_;refine oV ?_;refine oN ?_;refine vy ?_;refine qbe (by kernel_rfl) ?_;refine tC (cT (tR (qb (tR (qb ?_)))));refine retR rfl (.tmp rfl (.agg isAgg48 sizeOf48 rfl (by repeat constructor) rfl (.tmp rfl .nil))) ?_;refine leaf (Ext.refl _ _) (List.nil_sublist _) ?_; rw [hF,j8 hj,if_neg (hjn hj),if_neg (by omega),if_pos f4]; exact ⟨_,rfl,Slc.nil _ _⟩
  refine a_op #[false,false,true,false,false] rfl rfl ?_;refine oV ?_;refine oN ?_;refine vy ?_;refine a_go [0,1] (by kernel_rfl) rfl (TWs.cons ?_ (TWs.cons ?_ TWs.nil))
  ·
   refine a_op #[true,false,true,false,false] rfl rfl ?_;refine oA isAgg48 sizeOf48 ?_;refine oN ?_;refine vy ?_;refine a_go [1,3] (by kernel_rfl) rfl (TWs.cons ?_ (TWs.cons ?_ TWs.nil))
   ·
    refine a_op #[true,true,true,false,false] rfl rfl ?_;refine oV ?_;refine oN ?_;refine vy ?_;refine a_go [3] (by kernel_rfl) rfl (TWs.cons ?_ TWs.nil);refine a_op #[true,true,true,true,false] rfl rfl ?_;refine oS sizeOf48 ?_;refine oN ?_;refine vy ?_;refine a_go [4] (by kernel_rfl) rfl (TWs.cons ?_ TWs.nil);refine a_op #[true,true,true,true,true] rfl rfl ?_;refine oV ?_;refine oN ?_;refine vy ?_;refine qbe (by kernel_rfl) ?_;refine tC (cT (tR (qb (tR (qb ?_)))));refine retR rfl (.tmp rfl (.agg isAgg48 sizeOf48 rfl (by repeat constructor) rfl (.tmp rfl .nil))) ?_;refine leaf (Ext.refl _ _) (List.nil_sublist _) ?_; rw [hF,j8 hj,if_neg (hjn hj),if_neg (by omega),if_pos f4]; exact ⟨_,rfl,Slc.nil _ _⟩
   refine a_op #[true,false,true,true,false] rfl rfl ?_;refine oS sizeOf48 ?_;refine oN ?_;refine vy ?_;refine a_go [1] (by kernel_rfl) rfl (TWs.cons ?_ TWs.nil);refine a_op #[true,true,true,true,false] rfl rfl ?_;refine oV ?_;refine oN ?_;refine vy ?_;refine a_go [4] (by kernel_rfl) rfl (TWs.cons ?_ TWs.nil);refine a_op #[true,true,true,true,true] rfl rfl ?_;refine oV ?_;refine oN ?_;refine vy ?_;refine qbe (by kernel_rfl) ?_;refine tC (cT (tR (qb (tR (qb ?_)))));refine retR rfl (.tmp rfl (.agg isAgg48 sizeOf48 rfl (by repeat constructor) rfl (.tmp rfl .nil))) ?_;refine leaf (Ext.refl _ _) (List.nil_sublist _) ?_; rw [hF,j8 hj,if_neg (hjn hj),if_neg (by omega),if_pos f4]; exact ⟨_,rfl,Slc.nil _ _⟩
  refine a_op #[false,true,true,false,false] rfl rfl ?_;refine oV ?_;refine oN ?_;refine vy ?_;refine a_go [0] (by kernel_rfl) rfl (TWs.cons ?_ TWs.nil);refine a_op #[true,true,true,false,false] rfl rfl ?_;refine oA isAgg48 sizeOf48 ?_;refine oN ?_;refine vy ?_;refine a_go [3] (by kernel_rfl) rfl (TWs.cons ?_ TWs.nil);refine a_op #[true,true,true,true,false] rfl rfl ?_;refine oS sizeOf48 ?_;refine oN ?_;refine vy ?_;refine a_go [4] (by kernel_rfl) rfl (TWs.cons ?_ TWs.nil);refine a_op #[true,true,true,true,true] rfl rfl ?_;refine oV ?_;refine oN ?_;refine vy ?_;refine qbe (by kernel_rfl) ?_;refine tC (cT (tR (qb (tR (qb ?_)))));refine retR rfl (.tmp rfl (.agg isAgg48 sizeOf48 rfl (by repeat constructor) rfl (.tmp rfl .nil))) ?_;refine leaf (Ext.refl _ _) (List.nil_sublist _) ?_; rw [hF,j8 hj,if_neg (hjn hj),if_neg (by omega),if_pos f4]; exact ⟨_,rfl,Slc.nil _ _⟩
 have f4 := h4;try simp only [bl] at f4
 have hst := qcq hj f4; have hhop := qei hj f4
 refine kS ?_;refine oA isAgg48 sizeOf48 ?_;refine oF 2 underlying103 sizeOf48 ?_;refine oS sizeOf48 ?_;refine nS ?_;refine oV ?_;refine oA isAgg103 sizeOf103 ?_;refine oB underlying95 sizeOf103 zeroValue103 fun b55 => ?_;refine oD underlying95 qw1 fun v56 => ?_;refine oV ?_;refine nS ?_;refine oL isAgg149 ?_;refine oV ?_;refine oF 1 underlying151 sizeOf3 ?_;refine oL isAgg3 ?_;refine oV ?_
 (refine vp trivial rfl rfl rfl ?_ ?_; (omega))
 refine oV ?_;refine nS ?_;refine oL isAgg149 ?_;iterate 2 refine oV ?_
 refine oF 1 underlying151 sizeOf3 ?_;refine oS sizeOf3 ?_;refine nR ?_;refine oV ?_
 rw [show ((tokZ s (qf v6 s i)).stop : Int) - (((qf v6 s i) : Nat) : Int) = (((tokZ s (qf v6 s i)).stop - (qf v6 s i) : Nat) : Int) by omega]; refine oV ?_
 refine qd1 trivial rfl rfl call97 rfl rfl (qpy b7 b6 b21 s (qf v6 s i) (tokZ s (qf v6 s i)).stop hs hj0 hhop hst.2) (by repeat constructor) ?_;rintro _ _ _ hx6 ⟨rfl,rfl,rfl⟩;refine oN (qg ?_);exact ql ((tokZ s (qf v6 s i)).stop,out ++ [⟨(tokZ s (qf v6 s i)).kind,(tokZ s (qf v6 s i)).text,(qr s (qf v6 s i)).1,(qr s (qf v6 s i)).2⟩],v56) (sC rfl (sC rfl (sC rfl (sC rfl (sC rfl sN))))) (fun _ h => by simp only [qyg,List.length_append]; exact h.sort (by repeat constructor)) (by show s.size - (tokZ s (qf v6 s i)).stop < s.size - i; omega) ⟨hst.2,hj0.trans hhop,by rw [hF,j8 hj,if_neg (hjn hj),if_neg (by omega),if_neg (not_not_intro f4)],by simp only [List.length_append]; show out.length + 1 ≤ 4000; omega⟩
abbrev rdB (b : Nat) (vall : Value) (i : Nat) (vs vi vl vo va : Value) : Tw.Item := .box b (.cells #[vall,.int .i64 (i : Nat),vs,vi,vl,vo,va] 101 (0,0))
abbrev skR (vs : Value) (K : List Value) : Tw.Item := .row vs 20 1 K.length K
abbrev ltR (vl : Value) (ls : List LetC) : Tw.Item := .row vl 39 2 ls.length (ls.map LetC.cells).flatten
abbrev ndR (va : Value) (ns : List qd) : Tw.Item := .row va 37 8 ns.length (nds ns).flatten
def tkAt (L : List Tok) (i : Nat) : Tok := (L[i]?).getD ⟨0,⟨#[]⟩,0,0⟩
theorem qcr {L : List Tok} {i : Nat} {t : Tok} (h : L[i]? = some t) : tkAt L i = t := by unfold tkAt; rw [h]; rfl
theorem qht {L : List Tok} {i : Nat} (h : L.length ≤ i) : tkAt L i = ⟨0,⟨#[]⟩,0,0⟩ := by unfold tkAt; rw [List.getElem?_eq_none h]; rfl
theorem qzi {I : Hp} {v : Value} {L : List Tok} (h : Slc I 4 v (L.map Tok.cells)) {i : Nat} {t : Tok} (ht : L[i]? = some t) : ∀ k y, ([.int .i64 t.kind, .string t.text, .int .i64 t.line, .int .i64 t.col] : List Value)[k]? = some y → I.cell? ⟨slcB v, slcO v + i * 4 + k, none⟩ = some y :=
 h.cells i _ (by rw [List.getElem?_map,ht]; rfl)
theorem qep {L : List Tok} {i : Nat} (k : Int) (s : ByteArray) : hdT (L.drop i) k s = (decide (i < L.length) && isT (tkAt L i) k s) := by
 by_cases h : i < L.length
 · rw [List.drop_eq_getElem_cons h,decide_eq_true h,Bool.true_and,qcr (List.getElem?_eq_getElem h)]; rfl
 · rw [List.drop_eq_nil_of_le (by omega),decide_eq_false h]; rfl
theorem qb1 (b i : Nat) (vall vs vi vl vo va : Value) (L : List Tok) {I : Hp} (hL : Slc I 4 vall (L.map Tok.cells)) : Fun prog 59 [.pointer (some ⟨b, 0, none⟩)] I [rdB b vall i vs vi vl vo va]
   (fun v I' B' => I = I' ∧ B' = [rdB b vall i vs vi vl vo va] ∧ v = .tuple #[.agg #[.int .i64 (tkAt L i).kind,.string (tkAt L i).text,.int .i64 (tkAt L i).line,.int .i64 (tkAt L i).col],.bool (decide (i < L.length))]) := by
 have hll : (L.map Tok.cells).length = L.length := List.length_map _
 intro w hw
 refine qn _ func59 rfl ntmps59 rfl ?_ hw;refine sR ?_;refine qq trivial rfl zeroValue103 rfl (fun b2 => ?_);refine oV ?_;refine oN (tC (cS (cS ?_)));refine jf (by kernel_rfl) (by kernel_rfl) (fun _ h => h.drawn) ?_;iterate 2 refine oV ?_
 refine oF 1 underlying101 sizeOf3 ?_;refine oL isAgg3 ?_;iterate 2 refine oV ?_
 refine oF 0 underlying101 sizeOf95 ?_;refine oL isAgg95 ?_;refine qu trivial rfl underlying95 rfl (hL) ?_;refine oV ?_;refine nT ?_;refine cC rfl (fun h1 => ?_) (fun h1 => ?_)
 ·
  have f1 := h1;try simp only [bl] at f1
  refine sR ?_;refine qw trivial rfl (qch) rfl .nil ?_;refine oS sizeOf103 ?_;refine oV ?_;refine nF ?_;refine retR rfl (.agg isAgg103 sizeOf103 rfl (by repeat constructor) rfl (.tmp rfl .nil)) ?_;refine fun w' hw' => ⟨I,[rdB b vall i vs vi vl vo va],hw'.sort (by repeat constructor),Ext.refl _ _,rfl,rfl,?_⟩
  rw [qht (by omega),decide_eq_false (by omega)]; rfl
 have f1 := h1;try simp only [bl] at f1
 obtain ⟨t,ht⟩ : ∃ t,L[i]? = some t := ⟨L[i]'(by omega),List.getElem?_eq_getElem (by omega)⟩
 refine cK (tC (cS ?_));refine zu (m := 12) [rdB b vall i vs vi vl vo va] (by repeat constructor) (by kernel_rfl) rfl ?_;refine qT (i := 0) (qB 12 1) (Hp.Le.refl _) rfl rfl (oV qF) ?_;refine qT (i := 1) (qB 12 3) (Hp.Le.refl _) rfl rfl (oV qF) ?_;refine qT (i := 2) (qB 12 7) (Hp.Le.refl _) rfl rfl (oF 0 underlying101 sizeOf95 qF) ?_;refine qT (i := 3) (qB 12 15) (Hp.Le.refl _) rfl rfl (oL isAgg95 qF) ?_;refine qT (i := 4) (qB 12 31) (Hp.Le.refl _) rfl rfl (oV qF) ?_;refine qT (i := 5) (qB 12 63) (Hp.Le.refl _) rfl rfl (oV qF) ?_;refine qT (i := 6) (qB 12 127) (Hp.Le.refl _) rfl rfl (oF 1 underlying101 sizeOf3 qF) ?_;refine qT (i := 7) (qB 12 255) (Hp.Le.refl _) rfl rfl (oL isAgg3 qF) ?_;refine qT (i := 8) (qB 12 511) (Hp.Le.refl _) rfl rfl (vk trivial rfl underlying95 sizeOf103 rfl (hL) rfl (by omega) qF) ?_;refine qT (i := 9) (qB 12 1023) (Hp.Le.refl _) rfl rfl (jz trivial rfl isAgg103 sizeOf103 rfl rfl (qzi hL ht) qF) ?_;refine qO (i := 10) (qB 12 2047) rfl ?_;refine oS sizeOf103 ?_;refine qM (Hp.Le.refl _) ?_;refine qT (i := 11) (qB 12 4095) (Hp.Le.refl _) rfl rfl (oV qF) ?_;refine jc (by kernel_rfl) ?_;refine tC (cT ?_);refine retR rfl (.agg isAgg103 sizeOf103 rfl (by repeat constructor) rfl (.tmp rfl .nil)) ?_;refine fun w' hw' => ⟨I,[rdB b vall i vs vi vl vo va],hw'.sort (by repeat constructor),Ext.refl _ _,rfl,rfl,?_⟩
 rw [qcr ht,decide_eq_true (by omega)]; rfl
theorem qdm (b i : Nat) (vall vs vi vl vo va u : Value) (T : TypeId) (K : List Value) {I : Hp} (hK : K.length ≤ 100000) : Fun prog 173 [.pointer (some ⟨b, 0, none⟩), .iface T u] I [rdB b vall i vs vi vl vo va, skR vs K]
   (fun v I' B' => I = I' ∧ v = .tuple #[] ∧ ∃ vs',B' = [rdB b vall i vs' vi vl vo va,skR vs' (K ++ [.iface T u])]) := by
 intro w hw
 refine qz _ func173 rfl ntmps173 rfl ?_ hw;refine cR ?_;iterate 3 refine oV ?_
 refine oF 2 underlying101 sizeOf99 ?_;refine oL isAgg99 ?_;refine oV ?_;refine oB underlying99 sizeOf20 zeroValue20 fun b10 => ?_;refine oD underlying99 qw0 fun v11 => ?_;refine oV ?_;refine oF 2 underlying101 sizeOf99 ?_;refine j6 (u := v11) (by repeat constructor) (fun hcv => ?_);refine yn trivial rfl rfl (hcv).1 sizeOf99 (hcv).2 (by repeat constructor) (by exact Nat.le_of_ble_eq_true rfl) ?_;refine oN ?_;refine ret0 rfl ?_;exact fun w' hw' => ⟨I,[rdB b vall i v11 vi vl vo va,skR v11 (K ++ [.iface T u])],(by unfold skR; rw [List.length_append]; exact hw'.sort (by repeat constructor)),Ext.refl _ _,rfl,rfl,_,rfl⟩
theorem qeq (b i : Nat) (vall vs vi vl vo va x : Value) (K : List Value) {I : Hp} (hK : K.length ≤ 100000) : Fun prog 198 [.pointer (some ⟨b, 0, none⟩)] I [rdB b vall i vs vi vl vo va, skR vs (K ++ [x])]
   (fun v I' B' => I = I' ∧ v = x ∧ ∃ vs',B' = [rdB b vall i vs' vi vl vo va,skR vs' K]) := by
 have hl : (K ++ [x]).length = K.length + 1 := by simp
 have hx : (K ++ [x])[K.length]? = some x := by simp
 have e : (((K ++ [x]).length : Int) - 1).toNat = K.length := by rw [hl]; omega
 have ht : (K ++ [x]).take K.length = K := by simp
 intro w hw
 refine qn _ func198 rfl ntmps198 rfl ?_ hw;refine sR ?_;refine oV ?_;refine nS ?_;iterate 2 refine oV ?_
 refine oF 2 underlying101 sizeOf99 ?_;refine oL isAgg99 ?_;refine yw trivial rfl underlying99 rfl (by repeat constructor) ?_;refine oV ?_;refine nU ?_;iterate 2 refine oV ?_
 refine nT ?_;refine cC rfl (fun h1 => ?_) (fun h1 => ?_)
 ·
  have f1 := h1;try simp only [bl] at f1
  exfalso; omega
 have f1 := h1;try simp only [bl] at f1
 refine kS ?_;iterate 2 refine oV ?_
 refine oF 2 underlying101 sizeOf99 ?_;refine oL isAgg99 ?_;refine oV ?_
 (refine vp trivial rfl rfl rfl ?_ ?_; (omega))
 refine zv trivial rfl underlying99 sizeOf20 rfl (by repeat constructor) rfl (by omega) ?_;refine j0 trivial rfl isAgg20 (by repeat constructor) rfl (by rw [e,Nat.mul_one]; exact hx) ?_;refine oV ?_;refine nS ?_;iterate 3 refine oV ?_
 refine oF 2 underlying101 sizeOf99 ?_;refine oL isAgg99 ?_;refine oV ?_
 (refine vp trivial rfl rfl rfl ?_ ?_; (omega))
 refine qyy trivial rfl underlying99 sizeOf20 rfl rfl (by repeat constructor) (by omega) ?_;refine oV ?_;refine oF 2 underlying101 sizeOf99 ?_;refine j6 (u := yt vs 0 (((K ++ [x]).length : Int) - 1).toNat 1) (by repeat constructor) (fun hcv => ?_);refine yn trivial rfl rfl (hcv).1 sizeOf99 (hcv).2 (by repeat constructor) (by exact Nat.le_of_ble_eq_true rfl) ?_;refine nS ?_;iterate 2 refine oV ?_
 refine nE ?_;refine ret1 rfl rfl ?_;exact fun w' hw' => ⟨I,[rdB b vall i (yt vs 0 K.length 1) vi vl vo va,skR (yt vs 0 K.length 1) K],(by rw [e,Nat.mul_one,ht] at hw'; exact hw'.sort (by repeat constructor)),Ext.refl _ _,rfl,rfl,_,rfl⟩
abbrev opV (k p : Int) (br : Bool) : Value := .agg #[.int .i64 k,.int .i64 p,.bool br]
abbrev opI (k p : Int) (br : Bool) : Value := .iface 204 (opV k p br)
abbrev odI (a : Int) : Value := .iface 245 (.int .i64 a)
theorem qkh (b i : Nat) (vall vs vi vl vo va : Value) (K : List Value) {I : Hp} (hK : K.length ≤ 1) : Fun prog 197 [.pointer (some ⟨b, 0, none⟩)] I [rdB b vall i vs vi vl vo va, skR vs K]
   (fun v I' B' => I = I' ∧ B' = [rdB b vall i vs vi vl vo va,skR vs K] ∧ v = .tuple #[opV 0 0 false,.bool false]) := by
 intro w hw
 refine qn _ func197 rfl ntmps197 rfl ?_ hw;refine sR ?_;refine qq trivial rfl zeroValue204 rfl (fun b2 => ?_);refine oV ?_;refine nU ?_;iterate 2 refine oV ?_
 refine oF 2 underlying101 sizeOf99 ?_;refine oL isAgg99 ?_;refine yw trivial rfl underlying99 rfl (by repeat constructor) ?_;refine oV ?_;refine nS ?_;iterate 2 refine oV ?_
 refine nT ?_;refine cC rfl (fun h1 => ?_) (fun h1 => ?_)
 ·
  have f1 := h1;try simp only [bl] at f1
  exfalso; omega
 have f1 := h1;try simp only [bl] at f1
 refine kS ?_;refine qw trivial rfl (qci) rfl .nil ?_;refine oS sizeOf204 ?_;refine oV ?_;refine nE ?_;refine retR rfl (.agg isAgg204 sizeOf204 rfl (by repeat constructor) rfl (.tmp rfl .nil)) ?_;exact fun w' hw' => ⟨I,[rdB b vall i vs vi vl vo va,skR vs K],hw'.sort (by repeat constructor),Ext.refl _ _,rfl,rfl,rfl⟩
theorem qki (b i : Nat) (vall vs vi vl vo va x : Value) (k p : Int) (br : Bool) (K : List Value) {I : Hp} (hK : K.length ≤ 100000) : Fun prog 197 [.pointer (some ⟨b, 0, none⟩)] I [rdB b vall i vs vi vl vo va, skR vs (K ++ [opI k p br] ++ [x])]
   (fun v I' B' => I = I' ∧ B' = [rdB b vall i vs vi vl vo va,skR vs (K ++ [opI k p br] ++ [x])] ∧ v = .tuple #[opV k p br,.bool true]) := by
 have hl : (K ++ [opI k p br] ++ [x]).length = K.length + 2 := by simp
 have hx : (K ++ [opI k p br] ++ [x])[K.length]? = some (opI k p br) := by simp
 have e : (((K ++ [opI k p br] ++ [x]).length : Int) - 2).toNat = K.length := by rw [hl]; omega
 intro w hw
 refine qn _ func197 rfl ntmps197 rfl ?_ hw;refine sR ?_;refine qq trivial rfl zeroValue204 rfl (fun b2 => ?_);refine oV ?_;refine nU ?_;iterate 2 refine oV ?_
 refine oF 2 underlying101 sizeOf99 ?_;refine oL isAgg99 ?_;refine yw trivial rfl underlying99 rfl (by repeat constructor) ?_;refine oV ?_;refine nS ?_;iterate 2 refine oV ?_
 refine nT ?_;refine cC rfl (fun h1 => ?_) (fun h1 => ?_)
 ·
  have f1 := h1;try simp only [bl] at f1
  refine sR ?_;iterate 2 refine oV ?_
  refine oF 2 underlying101 sizeOf99 ?_;refine oL isAgg99 ?_;refine oV ?_
  (refine vp trivial rfl rfl rfl ?_ ?_; (omega))
  refine zv trivial rfl underlying99 sizeOf20 rfl (by repeat constructor) rfl (by omega) ?_;refine j0 trivial rfl isAgg20 (by repeat constructor) rfl (by rw [e,Nat.mul_one]; exact hx) ?_;refine qpw trivial rfl rfl (fun w => by kernel_rfl) ?_;iterate 3 refine oV ?_
  refine qq trivial rfl zeroValue204 rfl (fun b5 => ?_);refine oS sizeOf204 ?_;refine oV ?_;refine nS ?_;refine oA isAgg204 sizeOf204 ?_;refine oV ?_;refine oS sizeOf204 ?_;refine oV ?_;refine nF ?_;refine retR rfl (.agg isAgg204 sizeOf204 rfl (by repeat constructor) rfl (.tmp rfl .nil)) ?_;exact fun w' hw' => ⟨I,[rdB b vall i vs vi vl vo va,skR vs (K ++ [opI k p br] ++ [x])],hw'.sort (by repeat constructor),Ext.refl _ _,rfl,rfl,rfl⟩
 have f1 := h1;try simp only [bl] at f1
 exfalso; omega
theorem qhu (b i : Nat) (vall vs vi vl vo va : Value) (a : Int) (K : List Value) {I : Hp} (hK : K.length ≤ 100000) : Fun prog 199 [.pointer (some ⟨b, 0, none⟩)] I [rdB b vall i vs vi vl vo va, skR vs (K ++ [odI a])]
   (fun v I' B' => I = I' ∧ v = .int .i64 a ∧ ∃ vs',B' = [rdB b vall i vs' vi vl vo va,skR vs' K]) := by
 intro w hw
 refine qn _ func199 rfl ntmps199 rfl ?_ hw;refine sR ?_;refine oV ?_;refine nU ?_;refine oV ?_;refine oC trivial rfl call198 rfl (qeq b i vall vs vi vl vo va _ K (by omega)) (by repeat constructor) ?_;rintro _ _ _ hxp ⟨rfl,rfl,vs',rfl⟩;refine qpw trivial rfl rfl (fun w => by kernel_rfl) ?_;iterate 5 refine oV ?_
 refine nS ?_;refine oV ?_;refine nT ?_;refine zp rfl (by rfl) ?_;refine sR ?_;iterate 2 refine oV ?_
 refine nF ?_;refine ret1 rfl rfl ?_;exact fun w' hw' => ⟨I,[rdB b vall i vs' vi vl vo va,skR vs' K],hw'.sort (by repeat constructor),Ext.refl _ _,rfl,rfl,_,rfl⟩
def ndV (c : qd) : Value := .agg c.cells.toArray
theorem qpz {c : qd} (h1 : c.vn.oneCell' = true) (h2 : c.vd.oneCell' = true) : zb c.cells = true := by unfold qd.cells; simp only [zb,h1,h2]; rfl
theorem qp0 (ns : List qd) (c : qd) : (nds (ns ++ [c])).flatten = (nds ns).flatten ++ c.cells := by simp [nds]
theorem qhv (b i : Nat) (vall vs vi vl vo va : Value) (c : qd) (ns : List qd) (K : List Value) {I : Hp} (hc : c.ok I) (hK : K.length ≤ 90000) (hn : ns.length ≤ 90000) : Fun prog 200 [.pointer (some ⟨b, 0, none⟩), ndV c] I [rdB b vall i vs vi vl vo va, skR vs K, ndR va ns]
   (fun v I' B' => I = I' ∧ v = .tuple #[] ∧ ∃ vs' va',B' = [rdB b vall i vs' vi vl vo va',skR vs' (K ++ [odI ns.length]),ndR va' (ns ++ [c])]) := by
 have hc1 := hc.1.cells1
 have hc2 := hc.2.cells1
 have hl : (ns ++ [c]).length = ns.length + 1 := by simp
 unfold ndV
 intro w hw
 refine qz _ func200 rfl ntmps200 rfl ?_ hw;refine sR ?_;refine vh trivial rfl rfl rfl (fun b3 => ?_);refine oN (tC (cS ?_));refine zu (m := 13) [.box b3 _] (by repeat constructor) (by kernel_rfl) rfl ?_;refine qT (i := 0) (qB 13 1) (Hp.Le.refl _) rfl rfl (oV qF) ?_;refine qT (i := 1) (qB 13 3) (Hp.Le.refl _) rfl rfl (oV qF) ?_;refine qT (i := 2) (qB 13 7) (Hp.Le.refl _) rfl rfl (oV qF) ?_;refine qT (i := 3) (qB 13 15) (Hp.Le.refl _) rfl rfl (oF 3 underlying101 sizeOf26 qF) ?_;refine qT (i := 4) (qB 13 31) (Hp.Le.refl _) rfl rfl (oF 3 underlying26 sizeOf24 qF) ?_;refine qT (i := 6) (qB 13 95) (Hp.Le.refl _) rfl rfl (oA isAgg37 sizeOf37 qF) ?_;refine h_go [5,7] (by kernel_rfl) rfl (TWHs.cons ?_ (TWHs.cons ?_ TWHs.nil))
 ·
  refine qP (qB 13 127) rfl ?_;refine oL isAgg24 ?_;refine qM (Hp.Le.refl _) ?_;refine qO (i := 7) (qB 13 255) rfl ?_;refine oB underlying24 sizeOf37 zeroValue37 fun b11 => ?_;refine qM (Hp.Le.refl _) ?_;refine qO (i := 8) (qB 13 511) rfl ?_;refine qfm trivial rfl underlying24 (qok) (by decide) rfl rfl (fun v' => (by repeat constructor)) (by repeat constructor) rfl (by exact qpz hc1.2 hc2.2) (by (unfold maxLen; omega)) (by omega) (fun v12 => ?_);refine qM (Hp.Le.refl _) ?_;refine qT (i := 9) (qB 13 1023) (Hp.Le.refl _) rfl rfl (oV qF) ?_;refine qT (i := 10) (qB 13 2047) (Hp.Le.refl _) rfl rfl (oF 3 underlying101 sizeOf26 qF) ?_;refine qT (i := 11) (qB 13 4095) (Hp.Le.refl _) rfl rfl (oF 3 underlying26 sizeOf24 qF) ?_;refine qO (i := 12) (qB 13 8191) rfl ?_;refine j6 (u := v12) (by repeat constructor) (fun hcv => ?_);refine yn trivial rfl rfl (hcv).1 sizeOf24 (hcv).2 (by repeat constructor) (by exact Nat.le_of_ble_eq_true rfl) ?_;refine qM (Hp.Le.refl _) ?_;refine jc (by kernel_rfl) ?_;refine tC (cR ?_);iterate 3 refine oV ?_
  refine oF 3 underlying101 sizeOf26 ?_;refine oF 3 underlying26 sizeOf24 ?_;refine oL isAgg24 ?_;refine yw trivial rfl underlying24 rfl (by repeat constructor) ?_
  (refine vp trivial rfl rfl rfl ?_ ?_; (omega))
  rw [show (((ns.length + 1 : Nat) : Int) - 1) = (ns.length : Int) by omega]
  refine qoa trivial rfl underlying245 rfl ?_;refine oC trivial rfl call173 rfl (qdm b i vall vs vi vl vo v12 _ _ K (by omega)) (by repeat constructor) ?_;rintro _ _ _ hxp ⟨rfl,rfl,vs',rfl⟩;refine oN ?_;refine ret0 rfl ?_;exact fun w' hw' => ⟨I,[rdB b vall i vs' vi vl vo v12,skR vs' (K ++ [odI ns.length]),ndR v12 (ns ++ [c])],(by unfold ndR; rw [hl,qp0]; exact hw'.sort (by repeat constructor)),Ext.refl _ _,rfl,rfl,_,_,rfl⟩
 refine qP (qB 13 223) rfl ?_;refine oB underlying24 sizeOf37 zeroValue37 fun b11 => ?_;refine qM (Hp.Le.refl _) ?_;refine qO (i := 5) (qB 13 255) rfl ?_;refine oL isAgg24 ?_;refine qM (Hp.Le.refl _) ?_;refine qO (i := 8) (qB 13 511) rfl ?_;refine qfm trivial rfl underlying24 (qok) (by decide) rfl rfl (fun v' => (by repeat constructor)) (by repeat constructor) rfl (by exact qpz hc1.2 hc2.2) (by (unfold maxLen; omega)) (by omega) (fun v12 => ?_);refine qM (Hp.Le.refl _) ?_;refine qT (i := 9) (qB 13 1023) (Hp.Le.refl _) rfl rfl (oV qF) ?_;refine qT (i := 10) (qB 13 2047) (Hp.Le.refl _) rfl rfl (oF 3 underlying101 sizeOf26 qF) ?_;refine qT (i := 11) (qB 13 4095) (Hp.Le.refl _) rfl rfl (oF 3 underlying26 sizeOf24 qF) ?_;refine qO (i := 12) (qB 13 8191) rfl ?_;refine j6 (u := v12) (by repeat constructor) (fun hcv => ?_);refine yn trivial rfl rfl (hcv).1 sizeOf24 (hcv).2 (by repeat constructor) (by exact Nat.le_of_ble_eq_true rfl) ?_;refine qM (Hp.Le.refl _) ?_;refine jc (by kernel_rfl) ?_;refine tC (cR ?_);iterate 3 refine oV ?_
 refine oF 3 underlying101 sizeOf26 ?_;refine oF 3 underlying26 sizeOf24 ?_;refine oL isAgg24 ?_;refine yw trivial rfl underlying24 rfl (by repeat constructor) ?_
 (refine vp trivial rfl rfl rfl ?_ ?_; (omega))
 rw [show (((ns.length + 1 : Nat) : Int) - 1) = (ns.length : Int) by omega]
 refine qoa trivial rfl underlying245 rfl ?_;refine oC trivial rfl call173 rfl (qdm b i vall vs vi vl vo v12 _ _ K (by omega)) (by repeat constructor) ?_;rintro _ _ _ hxp ⟨rfl,rfl,vs',rfl⟩;refine oN ?_;refine ret0 rfl ?_;exact fun w' hw' => ⟨I,[rdB b vall i vs' vi vl vo v12,skR vs' (K ++ [odI ns.length]),ndR v12 (ns ++ [c])],(by unfold ndR; rw [hl,qp0]; exact hw'.sort (by repeat constructor)),Ext.refl _ _,rfl,rfl,_,_,rfl⟩
theorem qkj {a b c : Bool} (h : (!a || !b || !c) = true) : (a && (b && c)) = false := by revert h; cases a <;> cases b <;> cases c <;> decide
theorem qkk {a b c : Bool} (h : (!a || !b || !c) = false) : (a && (b && c)) = true := by revert h; cases a <;> cases b <;> cases c <;> decide
theorem qkl {a b : Bool} (h : (!a || !b) = true) : (a && b) = false := by revert h; cases a <;> cases b <;> decide
theorem qkm {a b : Bool} (h : (!a || !b) = false) : (a && b) = true := by revert h; cases a <;> cases b <;> decide
def adv (t : Bool) (i : Nat) : Nat := if t then i + 1 else i
theorem jn {L : List Tok} {i : Nat} {k : Int} {s : ByteArray} (h : hdT (L.drop i) k s = true) : i < L.length := by
 rw [qep] at h
 simp at h
 exact h.1
theorem qzj {L : List Tok} {i : Nat} {k : Int} {s : ByteArray} (h : i ≤ L.length) : adv (hdT (L.drop i) k s) i ≤ L.length := by
 unfold adv
 split
 · rename_i h1; exact jn h1
 · exact h
theorem qp1 (b i : Nat) (vall vs vi vl vo va : Value) (k : Int) (s : ByteArray) (L : List Tok) {I : Hp} (hL : Slc I 4 vall (L.map Tok.cells)) (hn : L.length ≤ 100000) : Fun prog 138 [.pointer (some ⟨b, 0, none⟩), .int .i64 k, .string s] I [rdB b vall i vs vi vl vo va]
   (fun v I' B' => I = I' ∧ v = .bool (hdT (L.drop i) k s) ∧ B' = [rdB b vall (adv (hdT (L.drop i) k s) i) vs vi vl vo va]) := by
 have hk := qep (L := L) (i := i) k s
 unfold isT at hk
 intro w hw
 refine j5 _ func138 rfl ntmps138 rfl ?_ hw;refine sR ?_;refine oV ?_;refine nS ?_;refine oV ?_;refine oC trivial rfl call59 rfl (qb1 b i vall vs vi vl vo va L hL) (by repeat constructor) ?_;rintro _ _ _ hx ⟨rfl,rfl,rfl⟩;iterate 3 refine oV ?_
 refine qq trivial rfl zeroValue103 rfl (fun b7 => ?_);refine oS sizeOf103 ?_;refine oV ?_;refine nU ?_;iterate 2 refine oV ?_
 refine' oZ (fun hb16 => ?_) ?_;rotate_left
 ·
  have fb16 := hb16
  try simp only [bl] at fb16
  refine gF hb16 0 underlying103 sizeOf3 ?_;refine gL hb16 isAgg3 ?_;iterate 2 refine gV hb16 ?_
  refine oN ?_;exact qa rfl
 refine' oZ (fun hb22 => ?_) ?_;rotate_left
 ·
  have fb22 := hb22
  try simp only [bl] at fb22
  refine gF hb22 1 underlying103 sizeOf9 ?_;refine gL hb22 isAgg9 ?_;iterate 2 refine gV hb22 ?_
  refine oN ?_;exact qa rfl
 refine nT ?_;refine cC rfl (fun h1 => ?_) (fun h1 => ?_)
 ·
  have f1 := h1;try simp only [bl] at f1
  have hf := hk.trans (qkj h1)
  refine sR ?_;refine oV ?_;refine nF ?_;refine ret1 rfl rfl ?_;refine leaf (Ext.refl _ _) (.cons _ (.cons_cons _ (List.nil_sublist _))) ⟨rfl,by rw [hf],?_⟩; rw [hf]; rfl
 have f1 := h1;try simp only [bl] at f1
 have hf := hk.trans (qkk h1)
 have hlt := jn hf
 refine kS ?_;iterate 2 refine oV ?_
 refine oF 1 underlying101 sizeOf3 ?_;refine oL isAgg3 ?_
 (refine qh trivial rfl rfl rfl ?_ ?_; (omega))
 refine oV ?_;refine oF 1 underlying101 sizeOf3 ?_;refine oS sizeOf3 ?_;refine nS ?_;refine oV ?_;refine nE ?_;refine ret1 rfl rfl ?_;exact fun w' hw' => ⟨I,[rdB b vall (i + 1) vs vi vl vo va],hw'.sort (by repeat constructor),Ext.refl _ _,rfl,by rw [hf],by rw [hf]; rfl⟩
theorem qcs (b i : Nat) (vall vs vi vl vo va : Value) (s : ByteArray) (L : List Tok) {I : Hp} (hL : Slc I 4 vall (L.map Tok.cells)) (hn : L.length ≤ 100000) : Fun prog 140 [.pointer (some ⟨b, 0, none⟩), .string s] I [rdB b vall i vs vi vl vo va]
   (fun v I' B' => I = I' ∧ v = .bool (hdT (L.drop i) 2 s) ∧ B' = [rdB b vall (adv (hdT (L.drop i) 2 s) i) vs vi vl vo va]) := by
 intro w hw
 refine qz _ func140 rfl ntmps140 rfl ?_ hw;refine sR ?_;refine oV ?_;refine nS ?_;iterate 2 refine oV ?_
 refine oC trivial rfl call138 rfl (qp1 b i vall vs vi vl vo va 2 s L hL hn) (by repeat constructor) ?_;rintro _ _ _ hx ⟨rfl,rfl,rfl⟩;refine oV ?_;refine nE ?_;refine ret1 rfl rfl ?_;exact leaf (Ext.refl _ _) (List.Sublist.refl _) ⟨rfl,rfl,rfl⟩
theorem qkn (b i : Nat) (vall vs vi vl vo va : Value) (s : ByteArray) (L : List Tok) {I : Hp} (hL : Slc I 4 vall (L.map Tok.cells)) (hn : L.length ≤ 100000) : Fun prog 103 [.pointer (some ⟨b, 0, none⟩), .string s] I [rdB b vall i vs vi vl vo va]
   (fun v I' B' => I = I' ∧ v = .bool (hdT (L.drop i) 0 s) ∧ B' = [rdB b vall (adv (hdT (L.drop i) 0 s) i) vs vi vl vo va]) := by
 intro w hw
 refine qz _ func103 rfl ntmps103 rfl ?_ hw;refine sR ?_;refine oV ?_;refine nS ?_;iterate 2 refine oV ?_
 refine oC trivial rfl call138 rfl (qp1 b i vall vs vi vl vo va 0 s L hL hn) (by repeat constructor) ?_;rintro _ _ _ hx ⟨rfl,rfl,rfl⟩;refine oV ?_;refine nE ?_;refine ret1 rfl rfl ?_;exact leaf (Ext.refl _ _) (List.Sublist.refl _) ⟨rfl,rfl,rfl⟩
theorem qko {L : List Tok} {i : Nat} : hdN (L.drop i) = (decide (i < L.length) && yf (tkAt L i)) := by
 by_cases h : i < L.length
 · rw [List.drop_eq_getElem_cons h,decide_eq_true h,Bool.true_and,qcr (List.getElem?_eq_getElem h)]; rfl
 · rw [List.drop_eq_nil_of_le (by omega),decide_eq_false h]; rfl
theorem qb2 {L : List Tok} {i : Nat} (h : hdN (L.drop i) = true) : i < L.length := by
 rw [qko] at h
 simp at h
 exact h.1
def zg (L : List Tok) : Prop := ∀ t ∈ L,t.text.size ≤ 60000
theorem zg.at_ {L : List Tok} (h : zg L) (i : Nat) : (tkAt L i).text.size ≤ 60000 := by
 by_cases hi : i < L.length
 · rw [qcr (List.getElem?_eq_getElem hi)]; exact h _ (List.getElem_mem hi)
 · rw [qht (by omega)]; exact Nat.zero_le _
theorem qkp (b i : Nat) (vall vs vi vl vo va : Value) (L : List Tok) {I : Hp} (hL : Slc I 4 vall (L.map Tok.cells)) (hn : L.length ≤ 100000) (hs : zg L) : Fun prog 139 [.pointer (some ⟨b, 0, none⟩)] I [rdB b vall i vs vi vl vo va]
   (fun v I' B' => I = I' ∧ v = .tuple #[.string (if hdN (L.drop i) then (tkAt L i).text else ⟨#[]⟩),.bool (hdN (L.drop i))] ∧ B' = [rdB b vall (adv (hdN (L.drop i)) i) vs vi vl vo va]) := by
 have hk := qko (L := L) (i := i)
 have hsm := hs.at_ i
 unfold yf at hk
 intro w hw
 refine qn _ func139 rfl ntmps139 rfl ?_ hw;refine sR ?_;iterate 2 refine oV ?_
 refine nS ?_;refine oV ?_;refine oC trivial rfl call59 rfl (qb1 b i vall vs vi vl vo va L hL) (by repeat constructor) ?_;rintro _ _ _ hx ⟨rfl,rfl,rfl⟩;iterate 3 refine oV ?_
 refine qq trivial rfl zeroValue103 rfl (fun b4 => ?_);refine oS sizeOf103 ?_;refine oV ?_;refine nU ?_;iterate 2 refine oV ?_
 refine' oZ (fun hb13 => ?_) ?_;rotate_left
 ·
  have fb13 := hb13
  try simp only [bl] at fb13
  refine gF hb13 0 underlying103 sizeOf3 ?_;refine gL hb13 isAgg3 ?_;refine gV hb13 ?_;refine oN ?_;exact qa rfl
 refine' oZ (fun hb18 => ?_) ?_;rotate_left
 ·
  have fb18 := hb18
  try simp only [bl] at fb18
  refine gF hb18 1 underlying103 sizeOf9 ?_;refine gL hb18 isAgg9 ?_;refine yd (wS rfl rfl hb18) rfl call18 rfl (qwy _ (by omega)) ?_;refine gV hb18 ?_;refine oN ?_;exact qa rfl
 refine nT ?_;refine cC rfl (fun h1 => ?_) (fun h1 => ?_)
 ·
  have f1 := h1;try simp only [bl] at f1
  have hf := hk.trans (qkj h1)
  refine sR ?_;iterate 2 refine oV ?_
  refine nF ?_;refine ret2 rfl rfl rfl ?_;refine leaf (Ext.refl _ _) (.cons _ (.cons_cons _ (List.nil_sublist _))) ⟨rfl,by rw [hf]; rfl,?_⟩; rw [hf]; rfl
 have f1 := h1;try simp only [bl] at f1
 have hf := hk.trans (qkk h1)
 have hlt := qb2 hf
 refine kS ?_;iterate 2 refine oV ?_
 refine oF 1 underlying101 sizeOf3 ?_;refine oL isAgg3 ?_
 (refine qh trivial rfl rfl rfl ?_ ?_; (omega))
 refine oV ?_;refine oF 1 underlying101 sizeOf3 ?_;refine oS sizeOf3 ?_;refine nS ?_;refine oF 1 underlying103 sizeOf9 ?_;refine oL isAgg9 ?_;iterate 2 refine oV ?_
 refine nE ?_;refine ret2 rfl rfl rfl ?_;exact fun w' hw' => ⟨I,[rdB b vall (i + 1) vs vi vl vo va],hw'.sort (by repeat constructor),Ext.refl _ _,rfl,by rw [hf]; rfl,by rw [hf]; rfl⟩
theorem qzk (s : ByteArray) {I : Hp} : Fun prog 171 [.string s] I [] (fun v I' _ => I = I' ∧ ∃ k,v = .tuple #[opV k (if k = 0 then 0 else ze k) false,.bool (decide (k ≠ 0))] ∧ k = (if s.toList == zk.toList then 2 else if s.toList == vf.toList then 3 else if s.toList == qaa.toList then 4 else if s.toList == qa3.toList then 5 else 0)) := by
 intro w hw
 refine qn _ func171 rfl ntmps171 rfl ?_ hw;refine sR ?_;refine qq trivial rfl zeroValue204 rfl (fun b2 => ?_);refine oV ?_;refine nU ?_;refine oV ?_;refine oN (tC (cB (sR ?_)));iterate 2 refine oV ?_
 refine nT ?_;refine cC rfl (fun h1 => ?_) (fun h1 => ?_)
 ·
  have f1 := h1;try simp only [bl] at f1
  refine sR ?_;refine qw trivial rfl (qci) rfl (.cons rfl rfl rfl (by repeat constructor) (.cons rfl rfl rfl (by repeat constructor) .nil)) ?_;refine oS sizeOf204 ?_;refine oV ?_;refine oN (tC (cT (qb (tR ?_))));refine retR rfl (.agg isAgg204 sizeOf204 rfl (by repeat constructor) rfl (.tmp rfl .nil)) ?_;exact qe ⟨rfl,2,rfl,by rw [if_pos (by exact h1)]⟩
 have f1 := h1;try simp only [bl] at f1
 refine sR ?_;iterate 2 refine oV ?_
 refine nT ?_;refine cC rfl (fun h2 => ?_) (fun h2 => ?_)
 ·
  have f2 := h2;try simp only [bl] at f2
  refine sR ?_;refine qw trivial rfl (qci) rfl (.cons rfl rfl rfl (by repeat constructor) (.cons rfl rfl rfl (by repeat constructor) .nil)) ?_;refine oS sizeOf204 ?_;refine oV ?_;refine oN (tC (cT (qb (tR ?_))));refine retR rfl (.agg isAgg204 sizeOf204 rfl (by repeat constructor) rfl (.tmp rfl .nil)) ?_;exact qe ⟨rfl,3,rfl,by rw [if_neg (by exact ne_true_of_eq_false h1),if_pos (by exact h2)]⟩
 have f2 := h2;try simp only [bl] at f2
 refine sR ?_;iterate 2 refine oV ?_
 refine nT ?_;refine cC rfl (fun h3 => ?_) (fun h3 => ?_)
 ·
  have f3 := h3;try simp only [bl] at f3
  refine sR ?_;refine qw trivial rfl (qci) rfl (.cons rfl rfl rfl (by repeat constructor) (.cons rfl rfl rfl (by repeat constructor) .nil)) ?_;refine oS sizeOf204 ?_;refine oV ?_;refine oN (tC (cT (qb (tR ?_))));refine retR rfl (.agg isAgg204 sizeOf204 rfl (by repeat constructor) rfl (.tmp rfl .nil)) ?_;exact qe ⟨rfl,4,rfl,by rw [if_neg (by exact ne_true_of_eq_false h1),if_neg (by exact ne_true_of_eq_false h2),if_pos (by exact h3)]⟩
 have f3 := h3;try simp only [bl] at f3
 refine sR ?_;iterate 2 refine oV ?_
 refine nT ?_;refine cC rfl (fun h4 => ?_) (fun h4 => ?_)
 ·
  have f4 := h4;try simp only [bl] at f4
  refine sR ?_;refine qw trivial rfl (qci) rfl (.cons rfl rfl rfl (by repeat constructor) (.cons rfl rfl rfl (by repeat constructor) .nil)) ?_;refine oS sizeOf204 ?_;refine oV ?_;refine oN (tC (cT (qb (tR ?_))));refine retR rfl (.agg isAgg204 sizeOf204 rfl (by repeat constructor) rfl (.tmp rfl .nil)) ?_;exact qe ⟨rfl,5,rfl,by rw [if_neg (by exact ne_true_of_eq_false h1),if_neg (by exact ne_true_of_eq_false h2),if_neg (by exact ne_true_of_eq_false h3),if_pos (by exact h4)]⟩
 have f4 := h4;try simp only [bl] at f4
 refine cK (qg (tC (sR ?_)));refine qw trivial rfl (qci) rfl .nil ?_;refine oS sizeOf204 ?_;refine oV ?_;refine nE ?_;refine retR rfl (.agg isAgg204 sizeOf204 rfl (by repeat constructor) rfl (.tmp rfl .nil)) ?_;exact qe ⟨rfl,0,rfl,by rw [if_neg (by exact ne_true_of_eq_false h1),if_neg (by exact ne_true_of_eq_false h2),if_neg (by exact ne_true_of_eq_false h3),if_neg (by exact ne_true_of_eq_false h4)]⟩
def encF : Fr → List Value
 | .neg => [opI 6 3 false]
 | .br => [opI 0 0 true]
 | .bin k a => [odI a,opI k (ze k) false]
def stk : List Fr → List Value
 | [] => []
 | f :: K => stk K ++ encF f
theorem qzl (f : Fr) : (encF f).length ≤ 2 := by cases f <;> simp [encF]
theorem qct : ∀ (K : List Fr), (stk K).length ≤ 2 * K.length
 | [] => Nat.le_refl _
 | f :: K => by
   have := qct K
   have := qzl f
   simp only [stk,List.length_append,List.length_cons]
   omega
def qhw (a : Int) : qd := ⟨negN a,.slice none 0 0,.slice none 0 0⟩
def qhx (k a b : Int) : qd := ⟨binN k a b,.slice none 0 0,.slice none 0 0⟩
theorem qp2 {I : Hp} (a : Int) : (qhw a).ok I := ⟨Ws.nil _,Ws.nil _⟩
theorem qp3 {I : Hp} (k a b : Int) : (qhx k a b).ok I := ⟨Ws.nil _,Ws.nil _⟩
def vq (ns : List qd) : Int := (ns.length : Int) - 1
theorem qf4 (ns : List qd) : vq ns = vr (ns.map qd.c) := by unfold vq vr; rw [List.length_map]
theorem qhy (ns : List qd) (c : qd) : vq (ns ++ [c]) = (ns.length : Int) := by unfold vq; rw [List.length_append]; show ((ns.length + 1 : Nat) : Int) - 1 = _; omega
def opK : Fr → Int
 | .neg => 6
 | .br => 0
 | .bin k _ => k
def opP : Fr → Int
 | .neg => 3
 | .br => 0
 | .bin k _ => ze k
def opB : Fr → Bool
 | .br => true
 | _ => false
def preF : Fr → List Value
 | .bin _ a => [odI a]
 | _ => []
theorem qhz (f : Fr) (K : List Fr) : stk (f :: K) = stk K ++ preF f ++ [opI (opK f) (opP f) (opB f)] := by cases f <;> simp [stk,encF,preF,opK,opP,opB]
theorem qkq (f : Fr) : (preF f).length ≤ 1 := by cases f <;> simp [preF]
theorem qkr {p : Int} {f : Fr} {K : List Fr} {all : List NodeC} (h : opB f = true ∨ opP f < p) : q8 p (f :: K) all = (f :: K,all) := by
 cases f with
 | br => rfl
 | neg => rcases h with h | h; · cases h
          unfold q8; rw [if_neg (by simp only [opP] at h; omega)]
 | bin k a => rcases h with h | h; · cases h
              unfold q8; rw [if_neg (by simp only [opP] at h; omega)]
theorem qzm {p : Int} {K : List Fr} {ns : List qd} (h : ¬ opP .neg < p) : q8 p (.neg :: K) (ns.map qd.c) = q8 p K ((ns ++ [qhw (vq ns)]).map qd.c) := by
 simp only [opP] at h
 conv => lhs; unfold q8
 rw [if_pos (by omega),List.map_append,qf4]; rfl
theorem qzn {p k a : Int} {K : List Fr} {ns : List qd} (h : ¬ opP (.bin k a) < p) : q8 p (.bin k a :: K) (ns.map qd.c) = q8 p K ((ns ++ [qhx k a (vq ns)]).map qd.c) := by
 simp only [opP] at h
 conv => lhs; unfold q8
 rw [if_pos (by omega),List.map_append,qf4]; rfl
theorem qzo {f : Fr} (hK : FrOk [f]) (h : opB f = false) (h6 : opK f = 6) : f = .neg := by
 cases f with
 | br => cases h
 | neg => rfl
 | bin k a => simp only [opK] at h6; have := hK.2.1; omega
theorem qzp {f : Fr} (h : opB f = false) (h6 : ¬ opK f = 6) : ∃ k a,f = .bin k a := by
 cases f with
 | br => cases h
 | neg => exact absurd rfl h6
 | bin k a => exact ⟨k,a,rfl⟩
theorem qks {f : Fr} {K : List Fr} (h : FrOk (f :: K)) : FrOk [f] ∧ FrOk K := by
 cases f with
 | br => exact ⟨trivial,h⟩
 | neg => exact ⟨trivial,h⟩
 | bin k a => exact ⟨⟨h.1,h.2.1,trivial⟩,h.2.2⟩
theorem qer (b i : Nat) (vall vs vi vl vo va : Value) (p : Int) (ns : List qd) (K : List Fr) (hK : FrOk K) {I : Hp} (hok : ∀ o ∈ ns, o.ok I) (hn : ns.length + K.length ≤ 20000) (h1 : 1 ≤ ns.length) :
   Fun prog 172 [.pointer (some ⟨b,0,none⟩),.int .i64 p] I [rdB b vall i vs vi vl vo va,skR vs (stk K ++ [odI (vq ns)]),ndR va ns]
   (fun v I' B' => I = I' ∧ v = .tuple #[] ∧ ∃ vs' va' ns',B' = [rdB b vall i vs' vi vl vo va',skR vs' (stk (q8 p K (ns.map qd.c)).1 ++ [odI (vq ns')]),ndR va' ns'] ∧ ns'.map qd.c = (q8 p K (ns.map qd.c)).2 ∧ (∀ o ∈ ns',o.ok I) ∧ 1 ≤ ns'.length ∧ ns'.length + (q8 p K (ns.map qd.c)).1.length ≤ ns.length + K.length) := by
 intro w hw
 refine qz _ func172 rfl ntmps172 rfl ?_ hw;refine cB ?_;refine qt (ι := List Fr × List qd × Value × Value) [0,1] (.cons rfl (.cons rfl .nil)) (fun x => x.1.length) (fun x E0 => E0) (fun x => St w (jb [rdB b vall i vs vi vl vo va,skR vs (stk K ++ [odI (vq ns)]),ndR va ns]) I [rdB b vall i x.2.2.1 vi vl vo x.2.2.2,skR x.2.2.1 (stk x.1 ++ [odI (vq x.2.1)]),ndR x.2.2.2 x.2.1]) (fun x => FrOk x.1 ∧ q8 p K (ns.map qd.c) = q8 p x.1 (x.2.1.map qd.c) ∧ (∀ o ∈ x.2.1,o.ok I) ∧ 1 ≤ x.2.1.length ∧ x.2.1.length + x.1.length ≤ ns.length + K.length) ((K,ns,vs,va)) (sC rfl (sC rfl sN)) (fun _ h => h) (⟨hK,rfl,hok,h1,Nat.le_refl _⟩) ?_;rintro ⟨K1,ns1,us,ua⟩ ⟨hK1,hF,hok1,hn1,hle1⟩
 try dsimp only
 simp only at hK1 hF hok1 hn1 hle1
 refine cB (cS ?_)
 rcases K1 with _ | ⟨f,K2⟩
 ·
  refine cR ?_;refine oV ?_;refine oC trivial rfl call197 rfl (qkh b i vall us vi vl vo ua (stk [] ++ [odI (vq ns1)]) (Nat.le_refl 1)) (by repeat constructor) ?_;rintro _ _ _ hx ⟨rfl,rfl,rfl⟩;iterate 3 refine oV ?_
  refine qq trivial rfl zeroValue204 rfl (fun b4 => ?_);refine oS sizeOf204 ?_;refine oV ?_;refine nU ?_;iterate 2 refine oV ?_
  refine' oZ (fun hb15 => ?_) ?_;rotate_left
  ·
   have fb15 := hb15
   try simp only [bl] at fb15
   refine gF hb15 2 underlying204 sizeOf4 ?_;refine gL hb15 isAgg4 ?_;refine oN ?_;exact qa rfl
  refine' oZ (fun hb19 => ?_) ?_;rotate_left
  ·
   have fb19 := hb19
   try simp only [bl] at fb19
   refine gF hb19 1 underlying204 sizeOf3 ?_;refine gL hb19 isAgg3 ?_;iterate 2 refine gV hb19 ?_
   refine oN ?_;exact qa rfl
  refine nT ?_;refine zp rfl (by rfl) ?_;refine cT (tR (qb (tR (qb ?_))));refine qm6 rfl ?_;exact fun w' hw' => ⟨I,[rdB b vall i us vi vl vo ua,skR us (stk [] ++ [odI (vq ns1)]),ndR ua ns1],hw'.sort (by repeat constructor),Ext.refl _ _,rfl,rfl,us,ua,ns1,by rw [hF]; rfl,by rw [hF]; rfl,hok1,hn1,by rw [hF]; exact hle1⟩
 rw [qhz]
 have hst := qct K2
 have hpf := qkq f
 have hsl : (stk K2 ++ preF f).length ≤ 90000 := by rw [List.length_append]; simp only [List.length_cons] at hle1; omega
 have hsl2 : (stk K2 ++ preF f ++ [opI (opK f) (opP f) (opB f)]).length ≤ 90001 := by rw [List.length_append]; exact Nat.succ_le_succ hsl
 simp only [List.length_cons] at hle1
 refine cR ?_;refine oV ?_;refine oC trivial rfl call197 rfl (qki b i vall us vi vl vo ua (odI (vq ns1)) (opK f) (opP f) (opB f) (stk K2 ++ preF f) (by omega)) (by repeat constructor) ?_;rintro _ _ _ hx ⟨rfl,rfl,rfl⟩;iterate 3 refine oV ?_
 refine qq trivial rfl zeroValue204 rfl (fun b4 => ?_);refine oS sizeOf204 ?_;refine oV ?_;refine nU ?_;iterate 2 refine oV ?_
 refine' oZ (fun hb15 => ?_) ?_;rotate_left
 ·
  have fb15 := hb15
  try simp only [bl] at fb15
  refine gF hb15 2 underlying204 sizeOf4 ?_;refine gL hb15 isAgg4 ?_;refine oN ?_;exact qa rfl
 refine' oZ (fun hb19 => ?_) ?_;rotate_left
 ·
  have fb19 := hb19
  try simp only [bl] at fb19
  refine gF hb19 1 underlying204 sizeOf3 ?_;refine gL hb19 isAgg3 ?_;iterate 2 refine gV hb19 ?_
  refine oN ?_;exact qa rfl
 refine nT ?_;refine cC rfl (fun h1 => ?_) (fun h1 => ?_)
 ·
  have f1 := h1;try simp only [bl] at f1
  refine cT (tR (qb (tR (qb ?_))));refine qm6 rfl ?_;exact fun w' hw' => ⟨I,[rdB b vall i us vi vl vo ua,skR us (stk K2 ++ preF f ++ [opI (opK f) (opP f) (opB f)] ++ [odI (vq ns1)]),ndR ua ns1],hw'.sort (by repeat constructor),Ext.refl _ _,rfl,rfl,us,ua,ns1,by rw [hF,qkr (by simpa [bl] using h1),← qhz],by rw [hF,qkr (by simpa [bl] using h1)],hok1,hn1,by rw [hF,qkr (by simpa [bl] using h1)]; exact hle1⟩
 have f1 := h1;try simp only [bl] at f1
 have hb : opB f = false ∧ ¬ opP f < p := by simpa [bl] using h1
 refine kS ?_;refine oV ?_;refine oC trivial rfl call199 rfl (qhu b i vall us vi vl vo ua (vq ns1) (stk K2 ++ preF f ++ [opI (opK f) (opP f) (opB f)]) (by omega)) (by repeat constructor) ?_;rintro _ _ _ hx2 ⟨rfl,rfl,us2,rfl⟩;refine oV ?_;refine nS ?_;refine oV ?_;refine oC trivial rfl call198 rfl (qeq b i vall us2 vi vl vo ua (opI (opK f) (opP f) (opB f)) (stk K2 ++ preF f) (by omega)) (by repeat constructor) ?_;rintro _ _ _ hx3 ⟨rfl,rfl,us3,rfl⟩;refine nU ?_;refine oF 0 underlying204 sizeOf3 ?_;refine oL isAgg3 ?_;refine oV ?_;refine nT ?_;refine cC rfl (fun h2 => ?_) (fun h2 => ?_)
 ·
  have f2 := h2;try simp only [bl] at f2
  obtain rfl := qzo (qks hK1).1 hb.1 f2
  refine sR ?_;refine oV ?_;refine oF 0 underlying204 sizeOf3 ?_;refine oL isAgg3 ?_;refine oV ?_;refine qw trivial rfl (qd8) rfl (.cons rfl rfl rfl (by repeat constructor) (.cons rfl rfl rfl (by repeat constructor) .nil)) ?_;refine oC trivial rfl call200 rfl (qhv b i vall us3 vi vl vo ua (qhw (vq ns1)) ns1 (stk K2 ++ preF .neg) (qp2 _) (by omega) (by omega)) (by repeat constructor) ?_;rintro _ _ _ hx4 ⟨rfl,rfl,us4,ua4,rfl⟩;refine oN (tC (qp (qc (qo rfl ?_))))
  (exact ql (K2, ns1 ++ [qhw (vq ns1)], us4, ua4) (sC rfl (sC rfl sN)) (fun _ h => by rw [qhy]; simp only [preF, List.append_nil] at h; exact h.sort (by repeat constructor)) (Nat.lt_succ_self _) ⟨(qks hK1).2, hF.trans (qzm hb.2), fun o ho => by
     rcases List.mem_append.1 ho with ho | ho
     · exact hok1 o ho
     · rw [List.mem_singleton.1 ho]; exact qp2 _,by rw [List.length_append]; omega,by rw [List.length_append]; simp only [List.length_cons,List.length_nil]; omega⟩)
 have f2 := h2;try simp only [bl] at f2
 obtain ⟨k,a,rfl⟩ := qzp hb.1 f2
 refine kS ?_;refine oV ?_;refine oC trivial rfl call199 rfl (qhu b i vall us3 vi vl vo ua a (stk K2) (by omega)) (by repeat constructor) ?_;rintro _ _ _ hx4 ⟨rfl,rfl,us4,rfl⟩;refine oV ?_;refine nR ?_;refine oV ?_;refine oF 0 underlying204 sizeOf3 ?_;refine oL isAgg3 ?_;iterate 2 refine oV ?_
 refine qw trivial rfl (qd8) rfl (.cons rfl rfl rfl (by repeat constructor) (.cons rfl rfl rfl (by repeat constructor) (.cons rfl rfl rfl (by repeat constructor) .nil))) ?_;refine oC trivial rfl call200 rfl (qhv b i vall us4 vi vl vo ua (qhx k a (vq ns1)) ns1 (stk K2) (qp3 _ _ _) (by omega) (by omega)) (by repeat constructor) ?_;rintro _ _ _ hx5 ⟨rfl,rfl,us5,ua5,rfl⟩;refine oN (qg ?_)
 (exact ql (K2, ns1 ++ [qhx k a (vq ns1)], us5, ua5) (sC rfl (sC rfl sN)) (fun _ h => by rw [qhy]; exact h.sort (by repeat constructor)) (Nat.lt_succ_self _) ⟨(qks hK1).2, hF.trans (qzn hb.2), fun o ho => by
    rcases List.mem_append.1 ho with ho | ho
    · exact hok1 o ho
    · rw [List.mem_singleton.1 ho]; exact qp3 _ _ _,by rw [List.length_append]; omega,by rw [List.length_append]; simp only [List.length_cons,List.length_nil]; omega⟩)
def decF (acc : Nat) (l : List UInt8) : Nat := l.foldl (fun n b => 10 * n + (b.toNat - 48)) acc
theorem qp4 : ∀ (l : List UInt8) (acc : Nat), acc ≤ decF acc l
 | [],acc => Nat.le_refl _
 | b :: l,acc => Nat.le_trans (by omega) (qp4 l (10 * acc + (b.toNat - 48)))
theorem qp5 : ∀ (l : List UInt8) (acc : Nat), acc * 10 ^ l.length ≤ decF acc l
 | [],acc => by simp [decF]
 | b :: l, acc => by
   refine Nat.le_trans ?_ (qp5 l (10 * acc + (b.toNat - 48)))
   rw [List.length_cons,Nat.pow_succ]
   calc acc * (10 ^ l.length * 10) = (10 * acc) * 10 ^ l.length := by rw [Nat.mul_comm (10 ^ l.length), ← Nat.mul_assoc, Nat.mul_comm acc]
     _ ≤ _ := Nat.mul_le_mul_right _ (by omega)
theorem qp6 : ∀ (l : List UInt8) (acc u : Nat), Lib.parseUint10 acc l = .ok u → (∀ b ∈ l, 48 ≤ b.toNat ∧ b.toNat ≤ 57) ∧ u = decF acc l
 | [], acc, u, h => by
   simp only [Lib.parseUint10] at h
   injection h with h
   exact ⟨fun b hb => (by cases hb),h.symm⟩
 | c :: r, acc, u, h => by
   simp only [Lib.parseUint10] at h
   split at h
   · rename_i hc
     split at h
     · cases h
     · split at h
       · cases h
       · obtain ⟨h1, h2⟩ := qp6 r _ u h
         refine ⟨fun b hb => ?_,by rw [h2,Nat.mul_comm]; rfl⟩
         rcases List.mem_cons.1 hb with rfl | hb
         · exact hc
         · exact h1 b hb
   · cases h
theorem qp7 : ∀ (l : List UInt8) (acc : Nat), (∀ b ∈ l, 48 ≤ b.toNat ∧ b.toNat ≤ 57) → decF acc l ≤ 1000000 → Lib.parseUint10 acc l = .ok (decF acc l)
 | [],acc,_,_ => rfl
 | c :: r, acc, hd, hs => by
   have hc := hd c (by simp)
   have hs' : decF (10 * acc + (c.toNat - 48)) r ≤ 1000000 := hs
   have h1 := qp4 r (10 * acc + (c.toNat - 48))
   simp only [Lib.parseUint10]
   rw [if_pos hc,if_neg (by omega),if_neg (by omega),Nat.mul_comm]
   exact qp7 r _ (fun b hb => hd b (by simp [hb])) hs'
theorem qp8 (s : ByteArray) : ∀ (f i : Nat), s.size ≤ i + f → yh s f i < s.size → (s.get! (yh s f i)).toNat = 124
 | 0,i,h,hc => by simp only [yh] at hc; omega
 | f + 1, i, h, hc => by
   simp only [yh] at hc ⊢
   split
   · rename_i h1; rw [if_pos h1] at hc; omega
   · rename_i h1
     rw [if_neg h1] at hc
     split
     · rename_i h2; exact h2
     · rename_i h2
       rw [if_neg h2] at hc
       exact qp8 s f (i + 1) (by omega) hc
theorem qp9 {s : ByteArray} (hs : numZ s = true) : Lib.atoiAll s.data.toList = Lib.signless (Lib.parseUint10 0 s.data.toList) ∧ 1 ≤ s.size ∧ 48 ≤ (s.get! 0).toNat ∧ (s.get! 0).toNat ≤ 57 := by
 have h0 : 1 ≤ s.size ∧ 48 ≤ (s.get! 0).toNat ∧ (s.get! 0).toNat ≤ 57 := by
   unfold numZ at hs
   split at hs
   · obtain ⟨h1, h2, _, _⟩ := ju hs
     exact ⟨h2,h1 0 (by omega)⟩
   · simp only [Bool.and_eq_true] at hs
     obtain ⟨h1,h2,_,_⟩ := ju hs.1.1
     have hle := qbo s
     rw [ByteArray.size_extract] at h2
     have := h1 0 (by rw [ByteArray.size_extract]; omega)
     rw [qeh s 0 (cutZ s) 0 hle (by omega)] at this
     exact ⟨by omega,this⟩
 have hl := qek s 0 (by omega)
 rw [List.drop_zero] at hl
 refine ⟨?_,h0⟩
 rw [hl,Lib.atoiAll_plain _ _ (by omega) (by omega)]
 unfold Lib.parseMag
 rw [if_neg (by simp)]
theorem qzq {s : ByteArray} (hd : ∀ b ∈ s.toList,48 ≤ b.toNat ∧ b.toNat ≤ 57) : cutZ s = s.size := by
 have hle := qbo s
 by_cases h : cutZ s = s.size
 · exact h
 · have hlt : cutZ s < s.size := by omega
   have := qp8 s s.size 0 (by omega) hlt
   have hm := hd _ (List.mem_of_getElem? (qel hlt))
   unfold cutZ at hm
   omega
theorem qkt {s : ByteArray} (hs : numZ s = true) (n : Nat) : yl s = some n ↔ Lib.atoiAll s.data.toList = .ok (n : Int) ∧ n ≤ 20 := by
 obtain ⟨ha,h1,h2⟩ := qp9 hs
 have ht : s.data.toList = s.toList := (ByteArray.toList_eq s).symm
 constructor
 · intro he
   have hle := qkc hs he
   have key : (∀ b ∈ s.toList,48 ≤ b.toNat ∧ b.toNat ≤ 57) ∧ n = decN s.toList := by
     have hz := hs
     unfold numZ at hz
     unfold yl at he
     split at he
     · rename_i hsz
       cases he
       refine ⟨?_,rfl⟩
       split at hz
       · exact qf1 (ju hz).1
       · rename_i hc
         simp only [Bool.and_eq_true] at hz
         obtain ⟨_,g2,_,_⟩ := ju hz.1.1
         have := qbo s
         rw [ByteArray.size_extract] at g2
         omega
     · split at he
       · rename_i hsz
         cases he
         refine ⟨?_,rfl⟩
         split at hz
         · exact qf1 (ju hz).1
         · rename_i hc
           simp only [Bool.and_eq_true] at hz
           obtain ⟨_,g2,_,_⟩ := ju hz.1.1
           obtain ⟨_,g3,_,_⟩ := ju hz.1.2
           have := qbo s
           rw [ByteArray.size_extract] at g2 g3
           omega
       · cases he
   refine ⟨?_,hle⟩
   have hp := qp7 s.toList 0 key.1 (by show decN s.toList ≤ _; omega)
   rw [ha,ht,hp]
   show Lib.signless (.ok (decN s.toList)) = _
   rw [← key.2]
   simp only [Lib.signless]
   rw [if_neg (by omega)]
 · rintro ⟨he, hle⟩
   rw [ha,ht] at he
   cases hp : Lib.parseUint10 0 s.toList with
   | range => rw [hp] at he; cases he
   | ok u =>
     rw [hp] at he
     simp only [Lib.signless] at he
     split at he
     · cases he
     · injection he with he
       have hun : u = n := by omega
       subst hun
       obtain ⟨hd,hu⟩ := qp6 _ _ _ hp
       have hu' : u = decN s.toList := hu
       have hc := qzq hd
       have hz := hs
       unfold numZ at hz
       rw [if_pos hc] at hz
       obtain ⟨g1,g2,g3,g4⟩ := ju hz
       unfold yl
       by_cases hs1 : s.size = 1
       · rw [if_pos hs1,hu']
       · rw [if_neg hs1]
         have hl := qek s 0 (by omega)
         rw [List.drop_zero,ht] at hl
         have hlen := qbp s
         have h48 : (s.get! 0).toNat ≠ 48 := by rcases g4 with g4 | g4; · exact absurd g4 hs1
                                                exact g4
         have hpw : 1 * 10 ^ (s.size - 1) ≤ decN s.toList := by
           have h9 := qp5 (s.toList.drop (0 + 1)) (10 * 0 + ((s.get! 0).toNat - 48))
           have e : (s.toList.drop (0 + 1)).length = s.size - 1 := by rw [List.length_drop,hlen]
           rw [hl]
           rw [e] at h9
           refine Nat.le_trans (Nat.mul_le_mul_right _ ?_) h9
           omega
         have hs2 : s.size = 2 := by
           rcases Nat.lt_or_ge 2 s.size with h3 | h3
           · have : 10 ^ 2 ≤ 10 ^ (s.size - 1) := Nat.pow_le_pow_right (by decide) (by omega)
             omega
           · omega
         have := g1 1 (by omega)
         rw [if_pos ⟨hs2,by omega,by omega⟩,hu']
   | _ => rw [hp] at he; cases he
theorem qzr {s : ByteArray} (hs : numZ s = true) {v : Int} (h : Lib.atoiAll s.data.toList = .ok v) : 0 ≤ v := by
 rw [(qp9 hs).1] at h
 cases hp : Lib.parseUint10 0 s.data.toList with
 | range => rw [hp] at h; cases h
 | ok u =>
   rw [hp] at h
   simp only [Lib.signless] at h
   split at h
   · cases h
   · injection h with h
     omega
 | _ => rw [hp] at h; cases h
def Errs (I : Hp) : Prop := (∃ ev,I.cell? ⟨6,0,none⟩ = some ev ∧ (ev = .nilIface ∨ ∃ te pe,ev = .iface te pe)) ∧ ∃ ev,I.cell? ⟨7,0,none⟩ = some ev ∧ (ev = .nilIface ∨ ∃ te pe,ev = .iface te pe)
theorem Errs.le {I I' : Hp} (h : Errs I) (hl : I.Le I') : Errs I' := by
 obtain ⟨⟨e1,h1,h2⟩,e2,h3,h4⟩ := h
 exact ⟨⟨e1,hl.cell h1,h2⟩,e2,hl.cell h3,h4⟩
theorem qqa (s : ByteArray) {I : Hp} (hE : Errs I) (hs : s.size ≤ 100000) : Fun prog 216 [.string s] I [] (fun v _ _ => ∃ (n : Int) (e : Value),v = .tuple #[.int .i64 n,e] ∧ ((Lib.atoiAll s.data.toList = .ok n ∧ e = .nilIface) ∨ ((∀ m,Lib.atoiAll s.data.toList ≠ .ok m) ∧ ∃ N,e = .iface 268 (.pointer (some ⟨N,0,none⟩))))) := by
 obtain ⟨⟨e1,k1,k2⟩,e2,k3,k4⟩ := hE
 refine qhb fun w hw => ?_
 cases ha : Lib.atoiAll s.data.toList with
 | ok n =>
   refine (Tryz.strconv_Atoi_ok s (by omega) n ha w).mono ?_;rintro e w' ⟨rfl,h⟩;refine ⟨_,rfl,⟨n,_,rfl,.inl ⟨rfl,rfl⟩⟩,?_⟩
   rcases h with rfl | ⟨t,rfl⟩
   · exact ⟨rfl,rfl,rfl,Nat.le_refl _,fun _ _ => rfl⟩
   · exact Lib.bytesWorld_below _ _ _
 | range =>
   refine (Tryz.strconv_Atoi_range s (by omega) ha e2 w (Hp.In.cell hw k3) k4).mono ?_;rintro e w' ⟨N,rfl,h1,h2,h3⟩;exact ⟨_,rfl,⟨_,_,rfl,.inr ⟨fun m h => (by cases h),N,rfl⟩⟩,h3⟩
 | _ =>
   refine (Tryz.strconv_Atoi_syntax s (by omega) ha e1 w (Hp.In.cell hw k1) k2).mono ?_;rintro e w' ⟨N,rfl,h1,h2,h3⟩;exact ⟨_,rfl,⟨_,_,rfl,.inr ⟨fun m h => (by cases h),N,rfl⟩⟩,h3⟩
theorem qzs {W : World} (h : W.ShapedOpen prog) : Mx (World.hp W) := let ⟨m,hm⟩ := Tryz.laysM145.s1_3 W h; ⟨m,hm⟩
end Go.Proofs.YtfcmhcaggdakbaaGreatDoor
namespace Go.Tw
open Go
def laid : List (ByteArray × Ex) → Nat → List LetC × List NodeC
 | [],_ => ([],[])
 | (s,x) :: l,b => (⟨s,(b : Int) + x.n - 1⟩ :: (laid l (b + x.n)).1,x.nd b ++ (laid l (b + x.n)).2)
theorem qes (s : ByteArray) (x : Ex) : ∀ (l : List (ByteArray × Ex)) (b : Nat), laid (l ++ [(s, x)]) b = ((laid l b).1 ++ [⟨s, ((b + (laid l b).2.length : Nat) : Int) + x.n - 1⟩], (laid l b).2 ++ x.nd (b + (laid l b).2.length))
 | [],b => by simp [laid]
 | (t, y) :: l, b => by
   have ih := qes s x l (b + y.n)
   simp only [List.cons_append,laid,ih,List.length_append,y.nd_len,Nat.add_assoc,List.append_assoc]
theorem qdn (l : List (ByteArray × Ex)) : ∀ b,(laid l b).1.length = l.length := by
 induction l with
 | nil => intro b; rfl
 | cons a l ih => intro b; obtain ⟨s,x⟩ := a; simp [laid,ih]
def qat (l : List ByteArray) : Prop := ∀ s ∈ l,vt s = true
def jv (l : List (ByteArray × Ex)) : Prop := ∀ a ∈ l,vt a.1 = true ∧ a.2.ok
structure Shaped (p : qv) (l : List (ByteArray × Ex)) : Prop where
 lets : p.lets = (laid l 0).1
 all : p.all = (laid l 0).2
 ok : jv l
theorem qku {x : Tok} (h : yf x = true) : vt x.text = true := by
 unfold yf at h
 simp at h
 exact h.2
theorem qh0 : ∀ (r : List Tok) {l : List ByteArray} {r1 : List Tok}, q9 r = .ok l r1 → qat l ∧ r1 <:+ r
 | [],_,_,h => by cases h
 | [x],_,_,h => by cases h
 | x :: y :: r, l, r1, h => by
   rw [q9] at h
   split at h
   · rename_i hx
     split at h
     · cases hn : q9 r with
       | bad r2 => rw [hn] at h; cases h
       | ok m r2 =>
         rw [hn] at h
         cases h
         obtain ⟨h1,h2⟩ := qh0 r hn
         refine ⟨fun s hs => ?_,h2.trans ⟨[_,_],rfl⟩⟩
         rcases List.mem_cons.1 hs with rfl | hs
         · exact qku hx
         · exact h1 s hs
     · split at h
       · cases h
         refine ⟨fun s hs => ?_,⟨[_,_],rfl⟩⟩
         rw [List.mem_singleton.1 hs]
         exact qku hx
       · cases h
   · cases h
theorem Lt1.ex {all a1 : List NodeC} {r r1 : List Tok} {s : ByteArray} (h : Lt1 all r (.ok s a1 r1)) (hr : yz r) : vt s = true ∧ r1 <:+ r ∧ ∃ x : Ex,x.ok ∧ a1 = all ++ x.nd all.length := by
 cases h with
 | ok h1 h2 h3 h4 =>
   have hs := h3.suf
   refine ⟨qku h1,((List.suffix_cons _ _).trans hs).trans ⟨[_,_],rfl⟩,?_⟩;exact h3.ex (hr.suf ⟨[_,_],rfl⟩) _ _ rfl
theorem Lts.ex {ls : List LetC} {all : List NodeC} {r : List Tok} {o : LSO} (h : Lts ls all r o) : yz r → ∀ l : List (ByteArray × Ex),jv l → ls = (laid l 0).1 → all = (laid l 0).2 → ∀ ls1 a1 r1,o = .ok ls1 a1 r1 → r1 <:+ r ∧ ∃ l',jv l' ∧ ls1 = (laid l' 0).1 ∧ a1 = (laid l' 0).2 := by
 induction h with
 | fin _ => intro hr l hl h1 h2 _ _ _ e; cases e; exact ⟨List.suffix_refl _,l,hl,h1,h2⟩
 | bad _ _ => intro hr l hl h1 h2 _ _ _ e; cases e
 | more hx h3 h4 ih =>
   intro hr l hl h1 h2 ls1 a2 r2 e
   have hr1 := hr.suf (List.suffix_cons _ _)
   obtain ⟨k1,k2,x,hx2,e2⟩ := h3.ex hr1
   subst h1 h2
   obtain ⟨q1, q2⟩ := ih (hr1.suf k2) (l ++ [(_, x)]) (fun a ha => by
     rcases List.mem_append.1 ha with ha | ha
     · exact hl a ha
     · rw [List.mem_singleton.1 ha]; exact ⟨k1,hx2⟩) (by rw [qes,e2,zf]; simp) (by rw [qes,e2]; simp) _ _ _ e
   exact ⟨q1.trans (k2.trans (List.suffix_cons _ _)),q2⟩
theorem Prg.ex {r : List Tok} {p : qv} (h : Prg r (.ok p)) (hr : yz r) : ∃ l,Shaped p l ∧ qat p.ins ∧ qat p.outs ∧ 1 ≤ p.ins.length ∧ 1 ≤ p.outs.length := by
 cases h with
 | ok h1 h2 h3 h4 h5 =>
   have hr1 := hr.suf (List.suffix_cons _ _)
   obtain ⟨k1,k2⟩ := qh0 _ h2
   obtain ⟨q1,l,q2,q3,q4⟩ := h3.ex (hr1.suf k2) [] (fun a ha => by cases ha) rfl rfl _ _ _ rfl
   obtain ⟨k3,k4⟩ := qh0 _ h5
   have f1 := qj9 _ |> fun h => (by rw [h2] at h; exact h : NOut.fits _ (.ok _ _))
   have f2 := qj9 _ |> fun h => (by rw [h5] at h; exact h : NOut.fits _ (.ok _ _))
   exact ⟨l,⟨q3,q4,q2⟩,k1,k3,f1.2,f2.2⟩
def Ex.hs : Ex → List Nat
 | .ref _ => [1]
 | .num _ => [1]
 | .neg x => x.hs ++ [x.h + 1]
 | .pow x _ => x.hs ++ [x.h + 1]
 | .bin _ x y => x.hs ++ y.hs ++ [max x.h y.h + 1]
theorem Ex.hs_len (x : Ex) : x.hs.length = x.n := by
 induction x with
 | ref t => rfl
 | num q => rfl
 | neg x ih => simp [Ex.hs,Ex.n,ih]
 | pow x e ih => simp [Ex.hs,Ex.n,ih]
 | bin k x y ih1 ih2 => simp [Ex.hs,Ex.n,ih1,ih2,Nat.add_assoc]
theorem Ex.hs_last (x : Ex) : x.hs[x.n - 1]? = some x.h := by
 cases x with
 | ref t => rfl
 | num q => rfl
 | neg x => simp [Ex.hs,Ex.n,Ex.h,List.getElem?_append,x.hs_len]
 | pow x e => simp [Ex.hs,Ex.n,Ex.h,List.getElem?_append,x.hs_len]
 | bin k x y => simp [Ex.hs,Ex.n,Ex.h,List.getElem?_append,x.hs_len,y.hs_len]
def jo (l : List (ByteArray × Ex)) : List Nat := (l.map fun a => a.2.hs).flatten
def vz (l : List NodeC) : Nat → Int → Nat
 | 0,_ => 0
 | f + 1, i => match l[i.toNat]? with
   | none => 0
   | some n => if n.kind ≤ 1 then 1 else if n.kind ≤ 5 then 1 + max (vz l f n.a) (vz l f n.b) else 1 + vz l f n.a
def At (l : List NodeC) (b : Nat) (x : Ex) : Prop := ∀ j c,(x.nd b)[j]? = some c → l[b + j]? = some c
theorem At.left {l m : List NodeC} {b : Nat} (h : ∀ j c,(m)[j]? = some c → l[b + j]? = some c) {u v : List NodeC} (e : m = u ++ v) : ∀ j c,u[j]? = some c → l[b + j]? = some c := by
 intro j c hj
 refine h j c ?_
 rw [e,List.getElem?_append_left]
 · exact hj
 · obtain ⟨h1,_⟩ := List.getElem?_eq_some_iff.1 hj; exact h1
theorem At.right {l m : List NodeC} {b : Nat} (h : ∀ j c,(m)[j]? = some c → l[b + j]? = some c) {u v : List NodeC} (e : m = u ++ v) : ∀ j c,v[j]? = some c → l[b + u.length + j]? = some c := by
 intro j c hj
 rw [Nat.add_assoc]
 refine h _ c ?_
 rw [e,List.getElem?_append_right (by omega),Nat.add_sub_cancel_left]
 exact hj
theorem qzt : ∀ (x : Ex) {l : List NodeC} {b f : Nat},x.ok → At l b x → b + x.n ≤ f → vz l f ((b : Int) + x.n - 1) = x.h := by
 intro x
 induction x with
 | ref t =>
   intro l b f _ h hf
   obtain ⟨f,rfl⟩ : ∃ g,f = g + 1 := ⟨f - 1,by simp [Ex.n] at hf; omega⟩
   have := h 0 _ rfl
   have e : ((b : Int) + (Ex.ref t).n - 1).toNat = b + 0 := by simp [Ex.n]
   unfold vz
   rw [e,this]; rfl
 | num q =>
   intro l b f _ h hf
   obtain ⟨f,rfl⟩ : ∃ g,f = g + 1 := ⟨f - 1,by simp [Ex.n] at hf; omega⟩
   have := h 0 _ rfl
   have e : ((b : Int) + (Ex.num q).n - 1).toNat = b + 0 := by simp [Ex.n]
   unfold vz
   rw [e,this]; rfl
 | neg x ih =>
   intro l b f hok h hf
   obtain ⟨f,rfl⟩ : ∃ g,f = g + 1 := ⟨f - 1,by simp [Ex.n] at hf; omega⟩
   have hl := At.left h (u := x.nd b) rfl
   have hr := At.right h (u := x.nd b) rfl 0 _ rfl
   rw [x.nd_len] at hr
   have e : ((b : Int) + (Ex.neg x).n - 1).toNat = b + x.n + 0 := by simp [Ex.n]; omega
   unfold vz
   rw [e,hr]
   show 1 + vz l f ((b : Int) + x.n - 1) = x.h + 1
   rw [ih hok hl (by simp [Ex.n] at hf; omega)]
   omega
 | pow x e0 ih =>
   intro l b f hok h hf
   obtain ⟨f,rfl⟩ : ∃ g,f = g + 1 := ⟨f - 1,by simp [Ex.n] at hf; omega⟩
   have hl := At.left h (u := x.nd b) rfl
   have hr := At.right h (u := x.nd b) rfl 0 _ rfl
   rw [x.nd_len] at hr
   have e : ((b : Int) + (Ex.pow x e0).n - 1).toNat = b + x.n + 0 := by simp [Ex.n]; omega
   unfold vz
   rw [e,hr]
   show 1 + vz l f ((b : Int) + x.n - 1) = x.h + 1
   rw [ih hok.1 hl (by simp [Ex.n] at hf; omega)]
   omega
 | bin k x y ih1 ih2 =>
   intro l b f hok h hf
   obtain ⟨f,rfl⟩ : ∃ g,f = g + 1 := ⟨f - 1,by simp [Ex.n] at hf; omega⟩
   have hxy := At.left h (u := x.nd b ++ y.nd (b + x.n)) rfl
   have hl := At.left hxy (u := x.nd b) rfl
   have hm := At.right hxy (u := x.nd b) rfl
   rw [x.nd_len] at hm
   have hr := At.right h (u := x.nd b ++ y.nd (b + x.n)) rfl 0 _ rfl
   rw [List.length_append,x.nd_len,y.nd_len] at hr
   have e : ((b : Int) + (Ex.bin k x y).n - 1).toNat = b + (x.n + y.n) + 0 := by simp [Ex.n]; omega
   unfold vz
   rw [e,hr]
   obtain ⟨k1,k2,o1,o2⟩ := hok
   show (if k ≤ 1 then 1 else if k ≤ 5 then 1 + max (vz l f ((b : Int) + x.n - 1)) (vz l f ((b : Int) + x.n + y.n - 1)) else 1 + vz l f ((b : Int) + x.n - 1)) = max x.h y.h + 1
   rw [if_neg (by omega),if_pos k2,ih1 o1 hl (by simp [Ex.n] at hf; omega)]
   have := ih2 (b := b + x.n) (f := f) o2 hm (by simp [Ex.n] at hf; omega)
   rw [show (((b + x.n : Nat) : Int) + y.n - 1) = (b : Int) + x.n + y.n - 1 by omega] at this
   rw [this]
   omega
theorem qzu : ∀ (x : Ex) {l : List NodeC} {b f : Nat},x.ok → At l b x → b + x.n ≤ f → ∀ j,j < x.n → some (vz l f ((b + j : Nat) : Int)) = x.hs[j]? := by
 intro x
 have last : ∀ (x : Ex) {l : List NodeC} {b f : Nat}, x.ok → At l b x → b + x.n ≤ f → some (vz l f ((b + (x.n - 1) : Nat) : Int)) = x.hs[x.n - 1]? := fun x l b f h1 h2 h3 => by
   have := x.n_pos
   rw [show ((b + (x.n - 1) : Nat) : Int) = (b : Int) + x.n - 1 by omega,qzt x h1 h2 h3,x.hs_last]
 induction x with
 | ref t => intro l b f h1 h2 h3 j hj; simp [Ex.n] at hj; subst hj; exact last _ h1 h2 h3
 | num q => intro l b f h1 h2 h3 j hj; simp [Ex.n] at hj; subst hj; exact last _ h1 h2 h3
 | neg x ih =>
   intro l b f hok h hf j hj
   by_cases hl : j = x.n
   · subst hl; exact last _ hok h hf
   · simp only [Ex.n] at hj hf
     have hl' := At.left h (u := x.nd b) rfl
     rw [ih hok hl' (by omega) j (by omega)]
     simp only [Ex.hs]
     rw [List.getElem?_append_left (by rw [x.hs_len]; omega)]
 | pow x e0 ih =>
   intro l b f hok h hf j hj
   by_cases hl : j = x.n
   · subst hl; exact last _ hok h hf
   · simp only [Ex.n] at hj hf
     have hl' := At.left h (u := x.nd b) rfl
     rw [ih hok.1 hl' (by omega) j (by omega)]
     simp only [Ex.hs]
     rw [List.getElem?_append_left (by rw [x.hs_len]; omega)]
 | bin k x y ih1 ih2 =>
   intro l b f hok h hf j hj
   by_cases hl : j = x.n + y.n
   · subst hl; exact last _ hok h hf
   · simp only [Ex.n] at hj hf
     have hxy := At.left h (u := x.nd b ++ y.nd (b + x.n)) rfl
     have hl' := At.left hxy (u := x.nd b) rfl
     have hm := At.right hxy (u := x.nd b) rfl
     rw [x.nd_len] at hm
     simp only [Ex.hs]
     rw [List.getElem?_append_left (by rw [List.length_append,x.hs_len,y.hs_len]; omega)]
     by_cases hx : j < x.n
     · rw [ih1 hok.2.2.1 hl' (by omega) j hx,List.getElem?_append_left (by rw [x.hs_len]; omega)]
     · rw [List.getElem?_append_right (by rw [x.hs_len]; omega), x.hs_len]
       have := ih2 (b := b + x.n) (f := f) hok.2.2.2 hm (by omega) (j - x.n) (by omega)
       rw [← this,show b + x.n + (j - x.n) = b + j by omega]
structure OpC where
 code : Int
 a : Int
 b : Int
 e : Int
 neg : Bool
 n : List Nat
 d : List Nat
structure OpV where
 c : OpC
 vn : Value
 vd : Value
def OpV.cells (o : OpV) : List Value := [.int .i64 o.c.code,.int .i64 o.c.a,.int .i64 o.c.b,.int .i64 o.c.e,.bool o.c.neg,o.vn,o.vd]
def OpV.ok (I : Hp) (o : OpV) : Prop := Ws I o.vn o.c.n ∧ Ws I o.vd o.c.d
theorem OpV.ok.le {I I' : Hp} {o : OpV} (h : o.ok I) (hl : I.Le I') : o.ok I' := ⟨h.1.le hl,h.2.le hl⟩
structure jw where
 ins : Int
 ops : List OpC
 outs : List Int
def ics (l : List Int) : List (List Value) := l.map fun z => [.int .i64 z]
structure jp (I : Hp) (vo vu : Value) (t : jw) (os : List OpV) : Prop where
 so : Slc I 7 vo (os.map OpV.cells)
 ok : ∀ o ∈ os,o.ok I
 eq : os.map OpV.c = t.ops
 su : Slc I 1 vu (ics t.outs)
theorem jp.le {I I' : Hp} {vo vu : Value} {t : jw} {os : List OpV} (h : jp I vo vu t os) (hl : I.Le I') : jp I' vo vu t os :=
 ⟨h.so.le hl,fun o ho => (h.ok o ho).le hl,h.eq,h.su.le hl⟩
def OpC.few (k : Nat) (o : OpC) : Prop := o.n.length ≤ k ∧ o.d.length ≤ k
def qx (neg : Bool) (A B : List Nat) : Bool := !neg && decide (A.length = 0) && decide (B.length = 0)
end Go.Tw
namespace Go.Proofs.YtfcmhcaggdakbaaGreatDoor
open Go Go.Tw
theorem qh1 (n : Int) {I : Hp} (h : -1000000 ≤ n ∧ n ≤ 1000000) : Fun prog 145 [.int .i64 n] I [] (fun v _ _ => v = .int .i64 (n.natAbs : Nat)) := by
 intro w hw
 refine qn _ func145 rfl ntmps145 rfl ?_ hw;refine sR ?_;refine oV ?_;refine nS ?_;iterate 3 refine oV ?_
 refine qbf trivial rfl rfl rfl ?_;refine oV ?_;refine nE ?_;refine ret1 rfl rfl ?_;refine qe (congrArg (Value.int .i64) ?_); rw [IntWalk.i64_in _ (by omega)]; omega
theorem qbq (neg : Bool) (va vb : Value) (A B : List Nat) {I : Hp} (ha : Ws I va A) (hb : Ws I vb B) : Fun prog 144 [.agg #[.bool neg,va,vb]] I [] (fun v _ _ => v = .bool (qx neg A B)) := by
 intro w hw
 refine qn _ func144 rfl ntmps144 rfl ?_ hw;refine sR ?_;refine vh trivial rfl rfl rfl (fun b1 => ?_);refine oV ?_;refine nS ?_;refine oF 0 underlying35 sizeOf4 ?_;refine oL isAgg4 ?_;refine oV ?_;refine' oY (fun hb6 => ?_) ?_;rotate_left
 ·
  have fb6 := hb6
  try simp only [bl] at fb6
  refine gF hb6 1 underlying35 sizeOf33 ?_;refine gL hb6 isAgg33 ?_;refine ve (wS rfl rfl hb6) rfl underlying33 rfl (ha) ?_;refine gV hb6 ?_;refine oN ?_;exact qa rfl
 refine' oY (fun hb12 => ?_) ?_;rotate_left
 ·
  have fb12 := hb12
  try simp only [bl] at fb12
  refine gF hb12 2 underlying35 sizeOf33 ?_;refine gL hb12 isAgg33 ?_;refine ve (wS rfl rfl hb12) rfl underlying33 rfl (hb) ?_;refine gV hb12 ?_;refine oN ?_;exact qa rfl
 refine oV ?_;refine nE ?_;refine ret1 rfl rfl ?_;refine qe (congrArg Value.bool ?_); unfold qx; rw [Bool.eq_iff_iff]; simp
def vw (o : OpC) : Bool :=
 if o.code = 1 then yb o.neg o.n o.d && decide (o.a = 0 ∧ o.b = 0 ∧ o.e = 0)
 else if 2 ≤ o.code ∧ o.code ≤ 5 then qx o.neg o.n o.d && decide (o.e = 0)
 else if o.code = 6 then qx o.neg o.n o.d && decide (o.b = 0 ∧ o.e = 0)
 else if o.code = 7 then qx o.neg o.n o.d && decide (o.b = 0 ∧ -20 ≤ o.e ∧ o.e ≤ 20)
 else false
theorem qzv (code a b e : Int) (neg : Bool) (va vb : Value) (A B : List Nat) {I : Hp} (ha : Ws I va A) (hb : Ws I vb B) (hs : A.length ≤ 2000000) (hs2 : B.length ≤ 2000000) : Fun prog 110 [.agg #[.int .i64 code,.int .i64 a,.int .i64 b,.int .i64 e,.bool neg,va,vb]] I [] (fun v _ _ => v = .bool (vw ⟨code,a,b,e,neg,A,B⟩)) := by
 intro w hw
 refine qn _ func110 rfl ntmps110 rfl ?_ hw;refine sR ?_;refine vh trivial rfl rfl rfl (fun b1 => ?_);refine oV ?_;refine nU ?_;refine oF 0 underlying69 sizeOf3 ?_;refine oL isAgg3 ?_;refine oN (tC (cB (cS (cB (cS (cB (cS (cB (cS (cB (cS (cS (sR ?_)))))))))))));iterate 2 refine oV ?_
 refine nT ?_;refine cC rfl (fun h1 => ?_) (fun h1 => ?_)
 ·
  have f1 := h1;try simp only [bl] at f1
  refine qp (qc (qc (qo rfl (tC (cS (sR ?_))))));refine oF 4 underlying69 sizeOf35 ?_;refine oA isAgg35 sizeOf35 ?_;refine oQ call143 rfl (qyb neg _ _ _ _ ha hb hs hs2) ?_;refine oV ?_;refine' oZ (fun hb20 => ?_) ?_;rotate_left
  ·
   have fb20 := hb20
   try simp only [bl] at fb20
   refine gF hb20 1 underlying69 sizeOf3 ?_;refine gL hb20 isAgg3 ?_;refine gV hb20 ?_;refine oN ?_;exact qa rfl
  refine nT ?_;refine cC rfl (fun h8 => ?_) (fun h8 => ?_)
  ·
   have f8 := h8;try simp only [bl] at f8
   refine sR ?_;refine oV ?_;refine oN (tC (cT (tR (qb (tR (qb (tR (qb (tR (qb (tR ?_)))))))))));refine ret1 rfl rfl ?_;refine qe (congrArg Value.bool ?_)
   unfold vw
   dsimp only
   (try rw [show qx false [] [] = true from rfl]
    generalize yb neg A B = K at *
    generalize qx neg A B = Z at *
    repeat (rw [if_pos (by omega)])
    try rw [Bool.eq_iff_iff]
    (cases K <;> cases Z <;> simp_all <;> omega))
  have f8 := h8;try simp only [bl] at f8
  refine cK (tC (cR ?_));refine qw trivial rfl (qbk) rfl .nil ?_;refine oF 4 underlying69 sizeOf35 ?_;refine oS sizeOf35 ?_;refine oN (qg (tC (sR ?_)));refine oF 2 underlying69 sizeOf3 ?_;refine oL isAgg3 ?_;refine oV ?_;refine nT ?_;refine cC rfl (fun h9 => ?_) (fun h9 => ?_)
  ·
   have f9 := h9;try simp only [bl] at f9
   refine sR ?_;refine oV ?_;refine oN (tC (cT (qb (tR (qb (tR (qb (tR ?_))))))));refine ret1 rfl rfl ?_;refine qe (congrArg Value.bool ?_)
   unfold vw
   dsimp only
   (try rw [show qx false [] [] = true from rfl]
    generalize yb neg A B = K at *
    generalize qx neg A B = Z at *
    repeat (rw [if_pos (by omega)])
    try rw [Bool.eq_iff_iff]
    (cases K <;> cases Z <;> simp_all <;> omega))
  have f9 := h9;try simp only [bl] at f9
  refine cK (qg (tC (sR ?_)));refine oF 3 underlying69 sizeOf3 ?_;refine oL isAgg3 ?_;refine oV ?_;refine nT ?_;refine cC rfl (fun h10 => ?_) (fun h10 => ?_)
  ·
   have f10 := h10;try simp only [bl] at f10
   refine sR ?_;refine oV ?_;refine oN (tC (cT (qb (tR (qb (tR ?_))))));refine ret1 rfl rfl ?_;refine qe (congrArg Value.bool ?_)
   unfold vw
   dsimp only
   (try rw [show qx false [] [] = true from rfl]
    generalize yb neg A B = K at *
    generalize qx neg A B = Z at *
    repeat (rw [if_pos (by omega)])
    try rw [Bool.eq_iff_iff]
    (cases K <;> cases Z <;> simp_all <;> omega))
  have f10 := h10;try simp only [bl] at f10
  refine cK (qg (tC (cS (sR ?_))));refine oF 4 underlying69 sizeOf35 ?_;refine oA isAgg35 sizeOf35 ?_
  (have h88 := h8; refine oQ call144 rfl (qbq false (.slice none 0 0) (.slice none 0 0) [] [] (Ws.nil _) (Ws.nil _)) ?_)
  refine' oY (fun hb36 => ?_) ?_;rotate_left
  ·
   have fb36 := hb36
   try simp only [bl] at fb36
   refine gF hb36 3 underlying69 sizeOf3 ?_;refine gL hb36 isAgg3 ?_;refine gV hb36 ?_;refine oN ?_;exact qa rfl
  refine' oY (fun hb41 => ?_) ?_;rotate_left
  ·
   have fb41 := hb41
   try simp only [bl] at fb41
   refine gF hb41 3 underlying69 sizeOf3 ?_;refine gL hb41 isAgg3 ?_;refine gV hb41 ?_;refine oN ?_;exact qa rfl
  refine' oY (fun hb46 => ?_) ?_;rotate_left
  ·
   have fb46 := hb46
   try simp only [bl] at fb46
   refine gF hb46 0 underlying69 sizeOf3 ?_;refine gL hb46 isAgg3 ?_;refine gV hb46 ?_;refine' o_or (wS rfl rfl hb46) (wS rfl rfl hb46) rfl rfl rfl rfl rfl rfl rfl rfl (fun hb50 => ?_) ?_;rotate_left
   ·
    have fb50 := hb50
    try simp only [bl] at fb50
    refine gF hb50 2 underlying69 sizeOf3 ?_;refine gL hb50 isAgg3 ?_;refine gV hb50 ?_;refine oN ?_;exact qa rfl
   refine oN ?_;exact qa rfl
  refine oV ?_;refine oN (tC (cT (tR (qb (tR ?_)))));refine ret1 rfl rfl ?_;refine qe (congrArg Value.bool ?_)
  unfold vw
  dsimp only
  (try rw [show qx false [] [] = true from rfl]
   generalize yb neg A B = K at *
   generalize qx neg A B = Z at *
   repeat (rw [if_pos (by omega)])
   try rw [Bool.eq_iff_iff]
   (cases K <;> cases Z <;> simp_all <;> omega))
 have f1 := h1;try simp only [bl] at f1
 refine cK (tC (cS (sR ?_)));iterate 2 refine oV ?_
 refine nT ?_;refine cC rfl (fun h2 => ?_) (fun h2 => ?_)
 ·
  have f2 := h2;try simp only [bl] at f2
  refine qp (qc (qc (v1 rfl (qc (qo rfl (tC (sR ?_)))))));refine oF 2 underlying69 sizeOf3 ?_;refine oL isAgg3 ?_;refine oV ?_;refine nT ?_;refine cC rfl (fun h9 => ?_) (fun h9 => ?_)
  ·
   have f9 := h9;try simp only [bl] at f9
   refine sR ?_;refine oV ?_;refine oN (tC (cT (qb (tR (qb (tR (qb (tR ?_))))))));refine ret1 rfl rfl ?_;refine qe (congrArg Value.bool ?_)
   unfold vw
   dsimp only
   (try rw [show qx false [] [] = true from rfl]
    generalize yb neg A B = K at *
    generalize qx neg A B = Z at *
    repeat (first | rw [if_pos (by omega)] | rw [if_neg (by omega)])
    try rw [Bool.eq_iff_iff]
    (cases K <;> cases Z <;> simp_all <;> omega))
  have f9 := h9;try simp only [bl] at f9
  refine cK (qg (tC (sR ?_)));refine oF 3 underlying69 sizeOf3 ?_;refine oL isAgg3 ?_;refine oV ?_;refine nT ?_;refine cC rfl (fun h10 => ?_) (fun h10 => ?_)
  ·
   have f10 := h10;try simp only [bl] at f10
   refine sR ?_;refine oV ?_;refine oN (tC (cT (qb (tR (qb (tR ?_))))));refine ret1 rfl rfl ?_;refine qe (congrArg Value.bool ?_)
   unfold vw
   dsimp only
   (try rw [show qx false [] [] = true from rfl]
    generalize yb neg A B = K at *
    generalize qx neg A B = Z at *
    repeat (first | rw [if_pos (by omega)] | rw [if_neg (by omega)])
    try rw [Bool.eq_iff_iff]
    (cases K <;> cases Z <;> simp_all <;> omega))
  have f10 := h10;try simp only [bl] at f10
  refine cK (qg (tC (cS (sR ?_))));refine oF 4 underlying69 sizeOf35 ?_;refine oA isAgg35 sizeOf35 ?_;refine yd trivial rfl call144 rfl (qbq neg va vb A B ha hb) ?_;refine' oY (fun hb36 => ?_) ?_;rotate_left
  ·
   have fb36 := hb36
   try simp only [bl] at fb36
   refine gF hb36 3 underlying69 sizeOf3 ?_;refine gL hb36 isAgg3 ?_;refine gV hb36 ?_;refine oN ?_;exact qa rfl
  refine' oY (fun hb41 => ?_) ?_;rotate_left
  ·
   have fb41 := hb41
   try simp only [bl] at fb41
   refine gF hb41 3 underlying69 sizeOf3 ?_;refine gL hb41 isAgg3 ?_;refine gV hb41 ?_;refine oN ?_;exact qa rfl
  refine' oY (fun hb46 => ?_) ?_;rotate_left
  ·
   have fb46 := hb46
   try simp only [bl] at fb46
   refine gF hb46 0 underlying69 sizeOf3 ?_;refine gL hb46 isAgg3 ?_;refine gV hb46 ?_;refine' o_or (wS rfl rfl hb46) (wS rfl rfl hb46) rfl rfl rfl rfl rfl rfl rfl rfl (fun hb50 => ?_) ?_;rotate_left
   ·
    have fb50 := hb50
    try simp only [bl] at fb50
    refine gF hb50 2 underlying69 sizeOf3 ?_;refine gL hb50 isAgg3 ?_;refine gV hb50 ?_;refine oN ?_;exact qa rfl
   refine oN ?_;exact qa rfl
  refine oV ?_;refine oN (tC (cT (tR (qb (tR ?_)))));refine ret1 rfl rfl ?_;refine qe (congrArg Value.bool ?_)
  unfold vw
  dsimp only
  (try rw [show qx false [] [] = true from rfl]
   generalize yb neg A B = K at *
   generalize qx neg A B = Z at *
   repeat (first | rw [if_pos (by omega)] | rw [if_neg (by omega)])
   try rw [Bool.eq_iff_iff]
   (cases K <;> cases Z <;> simp_all <;> omega))
 have f2 := h2;try simp only [bl] at f2
 refine cK (tC (cS (cS (sR ?_))));iterate 2 refine oV ?_
 refine nT ?_;refine cC rfl (fun h3 => ?_) (fun h3 => ?_)
 ·
  have f3 := h3;try simp only [bl] at f3
  refine cK (tC ?_);refine cC rfl (fun h6 => ?_) (fun h6 => ?_)
  ·
   have f6 := h6;try simp only [bl] at f6
   refine qp (qc (qc (v1 rfl (qc (v1 rfl (qc (qo rfl (tC (sR ?_)))))))));refine oF 3 underlying69 sizeOf3 ?_;refine oL isAgg3 ?_;refine oV ?_;refine nT ?_;refine cC rfl (fun h10 => ?_) (fun h10 => ?_)
   ·
    have f10 := h10;try simp only [bl] at f10
    refine sR ?_;refine oV ?_;refine oN (tC (cT (qb (tR (qb (tR ?_))))));refine ret1 rfl rfl ?_;refine qe (congrArg Value.bool ?_)
    unfold vw
    dsimp only
    (try rw [show qx false [] [] = true from rfl]
     generalize yb neg A B = K at *
     generalize qx neg A B = Z at *
     repeat (first | rw [if_pos (by omega)] | rw [if_neg (by omega)])
     try rw [Bool.eq_iff_iff]
     (cases K <;> cases Z <;> simp_all <;> omega))
   have f10 := h10;try simp only [bl] at f10
   refine cK (qg (tC (cS (sR ?_))));refine oF 4 underlying69 sizeOf35 ?_;refine oA isAgg35 sizeOf35 ?_;refine yd trivial rfl call144 rfl (qbq neg va vb A B ha hb) ?_;refine' oY (fun hb36 => ?_) ?_;rotate_left
   ·
    have fb36 := hb36
    try simp only [bl] at fb36
    refine gF hb36 3 underlying69 sizeOf3 ?_;refine gL hb36 isAgg3 ?_;refine gV hb36 ?_;refine oN ?_;exact qa rfl
   refine' oY (fun hb41 => ?_) ?_;rotate_left
   ·
    have fb41 := hb41
    try simp only [bl] at fb41
    refine gF hb41 3 underlying69 sizeOf3 ?_;refine gL hb41 isAgg3 ?_;refine gV hb41 ?_;refine oN ?_;exact qa rfl
   refine' oY (fun hb46 => ?_) ?_;rotate_left
   ·
    have fb46 := hb46
    try simp only [bl] at fb46
    refine gF hb46 0 underlying69 sizeOf3 ?_;refine gL hb46 isAgg3 ?_;refine gV hb46 ?_;refine' o_or (wS rfl rfl hb46) (wS rfl rfl hb46) rfl rfl rfl rfl rfl rfl rfl rfl (fun hb50 => ?_) ?_;rotate_left
    ·
     have fb50 := hb50
     try simp only [bl] at fb50
     refine gF hb50 2 underlying69 sizeOf3 ?_;refine gL hb50 isAgg3 ?_;refine gV hb50 ?_;refine oN ?_;exact qa rfl
    refine oN ?_;exact qa rfl
   refine oV ?_;refine oN (tC (cT (tR (qb (tR ?_)))));refine ret1 rfl rfl ?_;refine qe (congrArg Value.bool ?_)
   unfold vw
   dsimp only
   (try rw [show qx false [] [] = true from rfl]
    generalize yb neg A B = K at *
    generalize qx neg A B = Z at *
    repeat (first | rw [if_pos (by omega)] | rw [if_neg (by omega)])
    try rw [Bool.eq_iff_iff]
    (cases K <;> cases Z <;> simp_all <;> omega))
  have f6 := h6;try simp only [bl] at f6
  refine kS ?_;iterate 2 refine oV ?_
  refine nT ?_;refine cC rfl (fun h7 => ?_) (fun h7 => ?_)
  ·
   have f7 := h7;try simp only [bl] at f7
   refine qp (qc (v1 rfl (qc (v1 rfl (qc (v1 rfl (qc (qo rfl (tC (cS (sR ?_)))))))))));refine oF 4 underlying69 sizeOf35 ?_;refine oA isAgg35 sizeOf35 ?_;refine yd trivial rfl call144 rfl (qbq neg va vb A B ha hb) ?_;refine' oY (fun hb36 => ?_) ?_;rotate_left
   ·
    have fb36 := hb36
    try simp only [bl] at fb36
    refine gF hb36 3 underlying69 sizeOf3 ?_;refine gL hb36 isAgg3 ?_;refine gV hb36 ?_;refine oN ?_;exact qa rfl
   refine' oY (fun hb41 => ?_) ?_;rotate_left
   ·
    have fb41 := hb41
    try simp only [bl] at fb41
    refine gF hb41 3 underlying69 sizeOf3 ?_;refine gL hb41 isAgg3 ?_;refine gV hb41 ?_;refine oN ?_;exact qa rfl
   refine' oY (fun hb46 => ?_) ?_;rotate_left
   ·
    have fb46 := hb46
    try simp only [bl] at fb46
    refine gF hb46 0 underlying69 sizeOf3 ?_;refine gL hb46 isAgg3 ?_;refine gV hb46 ?_;refine' o_or (wS rfl rfl hb46) (wS rfl rfl hb46) rfl rfl rfl rfl rfl rfl rfl rfl (fun hb50 => ?_) ?_;rotate_left
    ·
     have fb50 := hb50
     try simp only [bl] at fb50
     refine gF hb50 2 underlying69 sizeOf3 ?_;refine gL hb50 isAgg3 ?_;refine gV hb50 ?_;refine oN ?_;exact qa rfl
    refine oN ?_;exact qa rfl
   refine oV ?_;refine oN (tC (cT (tR (qb (tR ?_)))));refine ret1 rfl rfl ?_;refine qe (congrArg Value.bool ?_)
   unfold vw
   dsimp only
   (exfalso; omega)
  have f7 := h7;try simp only [bl] at f7
  refine cK (tC (qp (v1 rfl (qc (v1 rfl (qc (v1 rfl (qc (v1 rfl (qc (qo rfl (tC (sR ?_)))))))))))));refine oV ?_;refine nE ?_;refine ret1 rfl rfl ?_;refine qe (congrArg Value.bool ?_)
  unfold vw
  dsimp only
  (exfalso; omega)
 have f3 := h3;try simp only [bl] at f3
 refine sR ?_;iterate 2 refine oV ?_
 refine nT ?_;refine cC rfl (fun h4 => ?_) (fun h4 => ?_)
 ·
  have f4 := h4;try simp only [bl] at f4
  refine cK (tC ?_);refine cC rfl (fun h6 => ?_) (fun h6 => ?_)
  ·
   have f6 := h6;try simp only [bl] at f6
   refine qp (qc (qc (v1 rfl (qc (v1 rfl (qc (qo rfl (tC (sR ?_)))))))));refine oF 3 underlying69 sizeOf3 ?_;refine oL isAgg3 ?_;refine oV ?_;refine nT ?_;refine cC rfl (fun h10 => ?_) (fun h10 => ?_)
   ·
    have f10 := h10;try simp only [bl] at f10
    refine sR ?_;refine oV ?_;refine oN (tC (cT (qb (tR (qb (tR ?_))))));refine ret1 rfl rfl ?_;refine qe (congrArg Value.bool ?_)
    unfold vw
    dsimp only
    (try rw [show qx false [] [] = true from rfl]
     generalize yb neg A B = K at *
     generalize qx neg A B = Z at *
     repeat (first | rw [if_pos (by omega)] | rw [if_neg (by omega)])
     try rw [Bool.eq_iff_iff]
     (cases K <;> cases Z <;> simp_all <;> omega))
   have f10 := h10;try simp only [bl] at f10
   refine cK (qg (tC (cS (sR ?_))));refine oF 4 underlying69 sizeOf35 ?_;refine oA isAgg35 sizeOf35 ?_;refine yd trivial rfl call144 rfl (qbq neg va vb A B ha hb) ?_;refine' oY (fun hb36 => ?_) ?_;rotate_left
   ·
    have fb36 := hb36
    try simp only [bl] at fb36
    refine gF hb36 3 underlying69 sizeOf3 ?_;refine gL hb36 isAgg3 ?_;refine gV hb36 ?_;refine oN ?_;exact qa rfl
   refine' oY (fun hb41 => ?_) ?_;rotate_left
   ·
    have fb41 := hb41
    try simp only [bl] at fb41
    refine gF hb41 3 underlying69 sizeOf3 ?_;refine gL hb41 isAgg3 ?_;refine gV hb41 ?_;refine oN ?_;exact qa rfl
   refine' oY (fun hb46 => ?_) ?_;rotate_left
   ·
    have fb46 := hb46
    try simp only [bl] at fb46
    refine gF hb46 0 underlying69 sizeOf3 ?_;refine gL hb46 isAgg3 ?_;refine gV hb46 ?_;refine' o_or (wS rfl rfl hb46) (wS rfl rfl hb46) rfl rfl rfl rfl rfl rfl rfl rfl (fun hb50 => ?_) ?_;rotate_left
    ·
     have fb50 := hb50
     try simp only [bl] at fb50
     refine gF hb50 2 underlying69 sizeOf3 ?_;refine gL hb50 isAgg3 ?_;refine gV hb50 ?_;refine oN ?_;exact qa rfl
    refine oN ?_;exact qa rfl
   refine oV ?_;refine oN (tC (cT (tR (qb (tR ?_)))));refine ret1 rfl rfl ?_;refine qe (congrArg Value.bool ?_)
   unfold vw
   dsimp only
   (try rw [show qx false [] [] = true from rfl]
    generalize yb neg A B = K at *
    generalize qx neg A B = Z at *
    repeat (first | rw [if_pos (by omega)] | rw [if_neg (by omega)])
    try rw [Bool.eq_iff_iff]
    (cases K <;> cases Z <;> simp_all <;> omega))
  have f6 := h6;try simp only [bl] at f6
  refine kS ?_;iterate 2 refine oV ?_
  refine nT ?_;refine cC rfl (fun h7 => ?_) (fun h7 => ?_)
  ·
   have f7 := h7;try simp only [bl] at f7
   refine qp (qc (v1 rfl (qc (v1 rfl (qc (v1 rfl (qc (qo rfl (tC (cS (sR ?_)))))))))));refine oF 4 underlying69 sizeOf35 ?_;refine oA isAgg35 sizeOf35 ?_;refine yd trivial rfl call144 rfl (qbq neg va vb A B ha hb) ?_;refine' oY (fun hb36 => ?_) ?_;rotate_left
   ·
    have fb36 := hb36
    try simp only [bl] at fb36
    refine gF hb36 3 underlying69 sizeOf3 ?_;refine gL hb36 isAgg3 ?_;refine gV hb36 ?_;refine oN ?_;exact qa rfl
   refine' oY (fun hb41 => ?_) ?_;rotate_left
   ·
    have fb41 := hb41
    try simp only [bl] at fb41
    refine gF hb41 3 underlying69 sizeOf3 ?_;refine gL hb41 isAgg3 ?_;refine gV hb41 ?_;refine oN ?_;exact qa rfl
   refine' oY (fun hb46 => ?_) ?_;rotate_left
   ·
    have fb46 := hb46
    try simp only [bl] at fb46
    refine gF hb46 0 underlying69 sizeOf3 ?_;refine gL hb46 isAgg3 ?_;refine gV hb46 ?_;refine' o_or (wS rfl rfl hb46) (wS rfl rfl hb46) rfl rfl rfl rfl rfl rfl rfl rfl (fun hb50 => ?_) ?_;rotate_left
    ·
     have fb50 := hb50
     try simp only [bl] at fb50
     refine gF hb50 2 underlying69 sizeOf3 ?_;refine gL hb50 isAgg3 ?_;refine gV hb50 ?_;refine oN ?_;exact qa rfl
    refine oN ?_;exact qa rfl
   refine oV ?_;refine oN (tC (cT (tR (qb (tR ?_)))));refine ret1 rfl rfl ?_;refine qe (congrArg Value.bool ?_)
   unfold vw
   dsimp only
   (exfalso; omega)
  have f7 := h7;try simp only [bl] at f7
  refine cK (tC (qp (v1 rfl (qc (v1 rfl (qc (v1 rfl (qc (v1 rfl (qc (qo rfl (tC (sR ?_)))))))))))));refine oV ?_;refine nE ?_;refine ret1 rfl rfl ?_;refine qe (congrArg Value.bool ?_)
  unfold vw
  dsimp only
  (exfalso; omega)
 have f4 := h4;try simp only [bl] at f4
 refine sR ?_;iterate 2 refine oV ?_
 refine nT ?_;refine cC rfl (fun h5 => ?_) (fun h5 => ?_)
 ·
  have f5 := h5;try simp only [bl] at f5
  refine cK (tC ?_);refine cC rfl (fun h6 => ?_) (fun h6 => ?_)
  ·
   have f6 := h6;try simp only [bl] at f6
   refine qp (qc (qc (v1 rfl (qc (v1 rfl (qc (qo rfl (tC (sR ?_)))))))));refine oF 3 underlying69 sizeOf3 ?_;refine oL isAgg3 ?_;refine oV ?_;refine nT ?_;refine cC rfl (fun h10 => ?_) (fun h10 => ?_)
   ·
    have f10 := h10;try simp only [bl] at f10
    refine sR ?_;refine oV ?_;refine oN (tC (cT (qb (tR (qb (tR ?_))))));refine ret1 rfl rfl ?_;refine qe (congrArg Value.bool ?_)
    unfold vw
    dsimp only
    (try rw [show qx false [] [] = true from rfl]
     generalize yb neg A B = K at *
     generalize qx neg A B = Z at *
     repeat (first | rw [if_pos (by omega)] | rw [if_neg (by omega)])
     try rw [Bool.eq_iff_iff]
     (cases K <;> cases Z <;> simp_all <;> omega))
   have f10 := h10;try simp only [bl] at f10
   refine cK (qg (tC (cS (sR ?_))));refine oF 4 underlying69 sizeOf35 ?_;refine oA isAgg35 sizeOf35 ?_;refine yd trivial rfl call144 rfl (qbq neg va vb A B ha hb) ?_;refine' oY (fun hb36 => ?_) ?_;rotate_left
   ·
    have fb36 := hb36
    try simp only [bl] at fb36
    refine gF hb36 3 underlying69 sizeOf3 ?_;refine gL hb36 isAgg3 ?_;refine gV hb36 ?_;refine oN ?_;exact qa rfl
   refine' oY (fun hb41 => ?_) ?_;rotate_left
   ·
    have fb41 := hb41
    try simp only [bl] at fb41
    refine gF hb41 3 underlying69 sizeOf3 ?_;refine gL hb41 isAgg3 ?_;refine gV hb41 ?_;refine oN ?_;exact qa rfl
   refine' oY (fun hb46 => ?_) ?_;rotate_left
   ·
    have fb46 := hb46
    try simp only [bl] at fb46
    refine gF hb46 0 underlying69 sizeOf3 ?_;refine gL hb46 isAgg3 ?_;refine gV hb46 ?_;refine' o_or (wS rfl rfl hb46) (wS rfl rfl hb46) rfl rfl rfl rfl rfl rfl rfl rfl (fun hb50 => ?_) ?_;rotate_left
    ·
     have fb50 := hb50
     try simp only [bl] at fb50
     refine gF hb50 2 underlying69 sizeOf3 ?_;refine gL hb50 isAgg3 ?_;refine gV hb50 ?_;refine oN ?_;exact qa rfl
    refine oN ?_;exact qa rfl
   refine oV ?_;refine oN (tC (cT (tR (qb (tR ?_)))));refine ret1 rfl rfl ?_;refine qe (congrArg Value.bool ?_)
   unfold vw
   dsimp only
   (try rw [show qx false [] [] = true from rfl]
    generalize yb neg A B = K at *
    generalize qx neg A B = Z at *
    repeat (first | rw [if_pos (by omega)] | rw [if_neg (by omega)])
    try rw [Bool.eq_iff_iff]
    (cases K <;> cases Z <;> simp_all <;> omega))
  have f6 := h6;try simp only [bl] at f6
  refine kS ?_;iterate 2 refine oV ?_
  refine nT ?_;refine cC rfl (fun h7 => ?_) (fun h7 => ?_)
  ·
   have f7 := h7;try simp only [bl] at f7
   refine qp (qc (v1 rfl (qc (v1 rfl (qc (v1 rfl (qc (qo rfl (tC (cS (sR ?_)))))))))));refine oF 4 underlying69 sizeOf35 ?_;refine oA isAgg35 sizeOf35 ?_;refine yd trivial rfl call144 rfl (qbq neg va vb A B ha hb) ?_;refine' oY (fun hb36 => ?_) ?_;rotate_left
   ·
    have fb36 := hb36
    try simp only [bl] at fb36
    refine gF hb36 3 underlying69 sizeOf3 ?_;refine gL hb36 isAgg3 ?_;refine gV hb36 ?_;refine oN ?_;exact qa rfl
   refine' oY (fun hb41 => ?_) ?_;rotate_left
   ·
    have fb41 := hb41
    try simp only [bl] at fb41
    refine gF hb41 3 underlying69 sizeOf3 ?_;refine gL hb41 isAgg3 ?_;refine gV hb41 ?_;refine oN ?_;exact qa rfl
   refine' oY (fun hb46 => ?_) ?_;rotate_left
   ·
    have fb46 := hb46
    try simp only [bl] at fb46
    refine gF hb46 0 underlying69 sizeOf3 ?_;refine gL hb46 isAgg3 ?_;refine gV hb46 ?_;refine' o_or (wS rfl rfl hb46) (wS rfl rfl hb46) rfl rfl rfl rfl rfl rfl rfl rfl (fun hb50 => ?_) ?_;rotate_left
    ·
     have fb50 := hb50
     try simp only [bl] at fb50
     refine gF hb50 2 underlying69 sizeOf3 ?_;refine gL hb50 isAgg3 ?_;refine gV hb50 ?_;refine oN ?_;exact qa rfl
    refine oN ?_;exact qa rfl
   refine oV ?_;refine oN (tC (cT (tR (qb (tR ?_)))));refine ret1 rfl rfl ?_;refine qe (congrArg Value.bool ?_)
   unfold vw
   dsimp only
   (exfalso; omega)
  have f7 := h7;try simp only [bl] at f7
  refine cK (tC (qp (v1 rfl (qc (v1 rfl (qc (v1 rfl (qc (v1 rfl (qc (qo rfl (tC (sR ?_)))))))))))));refine oV ?_;refine nE ?_;refine ret1 rfl rfl ?_;refine qe (congrArg Value.bool ?_)
  unfold vw
  dsimp only
  (exfalso; omega)
 have f5 := h5;try simp only [bl] at f5
 refine cR ?_;iterate 2 refine oV ?_
 refine nT ?_;refine cC rfl (fun h6 => ?_) (fun h6 => ?_)
 ·
  have f6 := h6;try simp only [bl] at f6
  refine qp (qc (qc (v1 rfl (qc (v1 rfl (qc (qo rfl (tC (sR ?_)))))))));refine oF 3 underlying69 sizeOf3 ?_;refine oL isAgg3 ?_;refine oV ?_;refine nT ?_;refine cC rfl (fun h10 => ?_) (fun h10 => ?_)
  ·
   have f10 := h10;try simp only [bl] at f10
   refine sR ?_;refine oV ?_;refine oN (tC (cT (qb (tR (qb (tR ?_))))));refine ret1 rfl rfl ?_;refine qe (congrArg Value.bool ?_)
   unfold vw
   dsimp only
   (try rw [show qx false [] [] = true from rfl]
    generalize yb neg A B = K at *
    generalize qx neg A B = Z at *
    repeat (first | rw [if_pos (by omega)] | rw [if_neg (by omega)])
    try rw [Bool.eq_iff_iff]
    (cases K <;> cases Z <;> simp_all <;> omega))
  have f10 := h10;try simp only [bl] at f10
  refine cK (qg (tC (cS (sR ?_))));refine oF 4 underlying69 sizeOf35 ?_;refine oA isAgg35 sizeOf35 ?_;refine yd trivial rfl call144 rfl (qbq neg va vb A B ha hb) ?_;refine' oY (fun hb36 => ?_) ?_;rotate_left
  ·
   have fb36 := hb36
   try simp only [bl] at fb36
   refine gF hb36 3 underlying69 sizeOf3 ?_;refine gL hb36 isAgg3 ?_;refine gV hb36 ?_;refine oN ?_;exact qa rfl
  refine' oY (fun hb41 => ?_) ?_;rotate_left
  ·
   have fb41 := hb41
   try simp only [bl] at fb41
   refine gF hb41 3 underlying69 sizeOf3 ?_;refine gL hb41 isAgg3 ?_;refine gV hb41 ?_;refine oN ?_;exact qa rfl
  refine' oY (fun hb46 => ?_) ?_;rotate_left
  ·
   have fb46 := hb46
   try simp only [bl] at fb46
   refine gF hb46 0 underlying69 sizeOf3 ?_;refine gL hb46 isAgg3 ?_;refine gV hb46 ?_;refine' o_or (wS rfl rfl hb46) (wS rfl rfl hb46) rfl rfl rfl rfl rfl rfl rfl rfl (fun hb50 => ?_) ?_;rotate_left
   ·
    have fb50 := hb50
    try simp only [bl] at fb50
    refine gF hb50 2 underlying69 sizeOf3 ?_;refine gL hb50 isAgg3 ?_;refine gV hb50 ?_;refine oN ?_;exact qa rfl
   refine oN ?_;exact qa rfl
  refine oV ?_;refine oN (tC (cT (tR (qb (tR ?_)))));refine ret1 rfl rfl ?_;refine qe (congrArg Value.bool ?_)
  unfold vw
  dsimp only
  (try rw [show qx false [] [] = true from rfl]
   generalize yb neg A B = K at *
   generalize qx neg A B = Z at *
   repeat (first | rw [if_pos (by omega)] | rw [if_neg (by omega)])
   try rw [Bool.eq_iff_iff]
   (cases K <;> cases Z <;> simp_all <;> omega))
 have f6 := h6;try simp only [bl] at f6
 refine kS ?_;iterate 2 refine oV ?_
 refine nT ?_;refine cC rfl (fun h7 => ?_) (fun h7 => ?_)
 ·
  have f7 := h7;try simp only [bl] at f7
  refine qp (qc (v1 rfl (qc (v1 rfl (qc (v1 rfl (qc (qo rfl (tC (cS (sR ?_)))))))))));refine oF 4 underlying69 sizeOf35 ?_;refine oA isAgg35 sizeOf35 ?_;refine yd trivial rfl call144 rfl (qbq neg va vb A B ha hb) ?_;refine' oY (fun hb36 => ?_) ?_;rotate_left
  ·
   have fb36 := hb36
   try simp only [bl] at fb36
   refine gF hb36 3 underlying69 sizeOf3 ?_;refine gL hb36 isAgg3 ?_;refine gV hb36 ?_;refine oN ?_;exact qa rfl
  refine' oY (fun hb41 => ?_) ?_;rotate_left
  ·
   have fb41 := hb41
   try simp only [bl] at fb41
   refine gF hb41 3 underlying69 sizeOf3 ?_;refine gL hb41 isAgg3 ?_;refine gV hb41 ?_;refine oN ?_;exact qa rfl
  refine' oY (fun hb46 => ?_) ?_;rotate_left
  ·
   have fb46 := hb46
   try simp only [bl] at fb46
   refine gF hb46 0 underlying69 sizeOf3 ?_;refine gL hb46 isAgg3 ?_;refine gV hb46 ?_;refine' o_or (wS rfl rfl hb46) (wS rfl rfl hb46) rfl rfl rfl rfl rfl rfl rfl rfl (fun hb50 => ?_) ?_;rotate_left
   ·
    have fb50 := hb50
    try simp only [bl] at fb50
    refine gF hb50 2 underlying69 sizeOf3 ?_;refine gL hb50 isAgg3 ?_;refine gV hb50 ?_;refine oN ?_;exact qa rfl
   refine oN ?_;exact qa rfl
  refine oV ?_;refine oN (tC (cT (tR (qb (tR ?_)))));refine ret1 rfl rfl ?_;refine qe (congrArg Value.bool ?_)
  unfold vw
  dsimp only
  (try rw [show qx false [] [] = true from rfl]
   generalize yb neg A B = K at *
   generalize qx neg A B = Z at *
   repeat (first | rw [if_pos (by omega)] | rw [if_neg (by omega)])
   try rw [Bool.eq_iff_iff]
   (cases K <;> cases Z <;> simp_all <;> omega))
 have f7 := h7;try simp only [bl] at f7
 refine cK (tC (qp (v1 rfl (qc (v1 rfl (qc (v1 rfl (qc (v1 rfl (qc (qo rfl (tC (sR ?_)))))))))))));refine oV ?_;refine nE ?_;refine ret1 rfl rfl ?_;refine qe (congrArg Value.bool ?_)
 unfold vw
 dsimp only
 first
   | (exfalso; omega)
   | (try rw [show qx false [] [] = true from rfl]
      generalize yb neg A B = K at *
      generalize qx neg A B = Z at *
      repeat (rw [if_neg (by omega)])
      try rw [Bool.eq_iff_iff]
      done)
def wgtM (o : OpC) (l : List Nat) : Nat := if 2 ≤ o.code ∧ o.code ≤ 5 then l.getD o.a.toNat 0 + l.getD o.b.toNat 0 else if o.code = 7 then l.getD o.a.toNat 0 * max 1 o.e.natAbs else l.getD o.a.toNat 0
def wgt (o : OpC) (l : List Nat) : Option Nat :=
 if o.code = 1 then some 1
 else if o.a < 0 ∨ (l.length : Int) ≤ o.a ∨ o.b < 0 ∨ (l.length : Int) ≤ o.b then none
 else if wgtM o l ≤ 200 then some (wgtM o l) else none
def nvs (l : List Nat) : List Value := l.map fun (x : Nat) => Value.int .i64 (x : Int)
theorem qbr {l : List Nat} {i : Nat} (h : i < l.length) : (nvs l)[i]? = some (.int .i64 ((l.getD i 0 : Nat) : Int)) := by
 unfold nvs; rw [List.getElem?_map,List.getD_eq_getElem?_getD,List.getElem?_eq_getElem h]; rfl
theorem qet {l : List Nat} {k : Nat} (h : ∀ x ∈ l,x ≤ k) (i : Nat) : l.getD i 0 ≤ k := by
 rw [List.getD_eq_getElem?_getD]
 cases hi : l[i]? with
 | none => exact Nat.zero_le _
 | some x => exact h x (List.mem_of_getElem? hi)
def wgtR (o : OpC) (l : List Nat) (v : Value) : Prop := ∃ m : Int,v = .tuple #[.int .i64 m,.bool (wgt o l).isSome] ∧ ∀ k,wgt o l = some k → m = k
theorem qeu {o : OpC} {l : List Nat} {M : Nat} {m : Int} (e : wgt o l = if M ≤ 200 then some M else none) (hm : m = M) : wgtR o l (.tuple #[.int .i64 m,.bool (decide (m ≤ 200))]) := by
 refine ⟨m,?_,fun k hk => ?_⟩
 · rw [e]
   by_cases h : M ≤ 200
   · rw [if_pos h,decide_eq_true (by omega)]; rfl
   · rw [if_neg h,decide_eq_false (by omega)]; rfl
 · rw [e] at hk
   split at hk
   · cases hk; exact hm
   · cases hk
theorem qzw {o : OpC} {l : List Nat} {m : Int} (e : wgt o l = none) : wgtR o l (.tuple #[.int .i64 m,.bool false]) := ⟨m,by rw [e]; rfl,fun k hk => by rw [e] at hk; cases hk⟩
theorem qzx (code a b e : Int) (neg : Bool) (va vb u : Value) (A B : List Nat) (l : List Nat) {I : Hp} (ha : Ws I va A) (hb : Ws I vb B) (he : code = 7 → -20 ≤ e ∧ e ≤ 20) (hl : l.length ≤ 1000000) (hl2 : ∀ x ∈ l, x ≤ 200) : Fun prog 111 [.agg #[.int .i64 code, .int .i64 a, .int .i64 b, .int .i64 e, .bool neg, va, vb], u] I [.row u 3 1 l.length (nvs l)]
   (fun v I' B' => I = I' ∧ B' = [.row u 3 1 l.length (nvs l)] ∧ wgtR ⟨code,a,b,e,neg,A,B⟩ l v) := by
 have ga := qet hl2 a.toNat
 have gb := qet hl2 b.toNat
 intro w hw
 refine qz _ func111 rfl ntmps111 rfl ?_ hw;refine sR ?_;refine vh trivial rfl rfl rfl (fun b2 => ?_);iterate 2 refine oV ?_
 refine nU ?_;refine oF 0 underlying69 sizeOf3 ?_;refine oL isAgg3 ?_;refine oV ?_;refine nT ?_;refine cC rfl (fun h1 => ?_) (fun h1 => ?_)
 ·
  have f1 := h1;try simp only [bl] at f1
  refine sR ?_;iterate 2 refine oV ?_
  refine nF ?_;refine ret2 rfl rfl rfl ?_;refine leaf (Ext.refl _ _) (List.sublist_cons_self _ _) ⟨rfl,rfl,1,?_,fun k hk => ?_⟩
  · unfold wgt wgtM; dsimp only; rw [if_pos f1]; rfl
  · unfold wgt at hk; dsimp only at hk; rw [if_pos f1] at hk; cases hk; rfl
 have f1 := h1;try simp only [bl] at f1
 refine cK (tC (cS (sR ?_)));refine oF 1 underlying69 sizeOf3 ?_;refine oL isAgg3 ?_;refine oV ?_;refine' oZ (fun hb13 => ?_) ?_;rotate_left
 ·
  have fb13 := hb13
  try simp only [bl] at fb13
  refine gF hb13 1 underlying69 sizeOf3 ?_;refine gL hb13 isAgg3 ?_;refine gV hb13 ?_;refine yw (wS rfl rfl hb13) rfl underlying52 rfl (by repeat constructor) ?_;refine gV hb13 ?_;refine oN ?_;exact qa rfl
 refine' oZ (fun hb20 => ?_) ?_;rotate_left
 ·
  have fb20 := hb20
  try simp only [bl] at fb20
  refine gF hb20 2 underlying69 sizeOf3 ?_;refine gL hb20 isAgg3 ?_;refine gV hb20 ?_;refine oN ?_;exact qa rfl
 refine' oZ (fun hb25 => ?_) ?_;rotate_left
 ·
  have fb25 := hb25
  try simp only [bl] at fb25
  refine gF hb25 2 underlying69 sizeOf3 ?_;refine gL hb25 isAgg3 ?_;refine gV hb25 ?_;refine yw (wS rfl rfl hb25) rfl underlying52 rfl (by repeat constructor) ?_;refine gV hb25 ?_;refine oN ?_;exact qa rfl
 refine nT ?_;refine cC rfl (fun h2 => ?_) (fun h2 => ?_)
 ·
  have f2 := h2;try simp only [bl] at f2
  refine sR ?_;iterate 2 refine oV ?_
  refine nF ?_;refine ret2 rfl rfl rfl ?_;refine leaf (Ext.refl _ _) (List.sublist_cons_self _ _) ⟨rfl,rfl,qzw ?_⟩
  unfold wgt wgtM; dsimp only; rw [if_neg f1,if_pos (by omega)]
 have f2 := h2;try simp only [bl] at f2
 refine kS ?_;refine oV ?_;refine oF 1 underlying69 sizeOf3 ?_;refine oL isAgg3 ?_;refine zv trivial rfl underlying52 sizeOf3 rfl (by repeat constructor) rfl (by omega) ?_;refine j0 trivial rfl isAgg3 (by repeat constructor) rfl (by rw [Nat.mul_one]; exact qbr (by omega)) ?_;refine oV ?_;refine nU ?_;refine oF 0 underlying69 sizeOf3 ?_;refine oL isAgg3 ?_;refine oN (tC (cB (cS (sR ?_))));iterate 2 refine oV ?_
 refine nT ?_;refine cC rfl (fun h3 => ?_) (fun h3 => ?_)
 ·
  have f3 := h3;try simp only [bl] at f3
  refine cK (tC ?_);refine cC rfl (fun h6 => ?_) (fun h6 => ?_)
  ·
   have f6 := h6;try simp only [bl] at f6
   refine cR ?_;iterate 2 refine oV ?_
   refine oF 2 underlying69 sizeOf3 ?_;refine oL isAgg3 ?_;refine zv trivial rfl underlying52 sizeOf3 rfl (by repeat constructor) rfl (by omega) ?_;refine j0 trivial rfl isAgg3 (by repeat constructor) rfl (by rw [Nat.mul_one]; exact qbr (by omega)) ?_
   (refine qh trivial rfl rfl rfl ?_ ?_; (omega))
   refine oV ?_;refine oN (qg (tC (sR ?_)));iterate 5 refine oV ?_
   refine nE ?_;refine ret2 rfl rfl rfl ?_
   have n2 : ¬ (a < 0 ∨ (l.length : Int) ≤ a ∨ b < 0 ∨ (l.length : Int) ≤ b) := by omega
   have hmx : max (1 : Int) (e.natAbs : Nat) = ((max 1 e.natAbs : Nat) : Int) := by omega
   refine leaf (Ext.refl _ _) (List.sublist_cons_self _ _) ⟨rfl,rfl,?_⟩
   (have n3 : 2 ≤ code ∧ code ≤ 5 := by omega
    refine qeu (M := l.getD a.toNat 0 + l.getD b.toNat 0) ?_ (by omega)
    unfold wgt wgtM; dsimp only; rw [if_neg f1,if_neg n2,if_pos n3])
  have f6 := h6;try simp only [bl] at f6
  refine sR ?_;iterate 2 refine oV ?_
  refine nT ?_;refine cC rfl (fun h7 => ?_) (fun h7 => ?_)
  ·
   have f7 := h7;try simp only [bl] at f7
   have he' := he f7
   refine cR ?_;refine oV ?_;refine oF 3 underlying69 sizeOf3 ?_;refine oL isAgg3 ?_;refine oQ call145 rfl (qh1 e (by omega)) ?_;refine qbf trivial rfl rfl rfl ?_
   (refine jy trivial rfl rfl rfl ?_ ?_; (omega))
   refine oV ?_;refine oN (qg (tC (sR ?_)));iterate 5 refine oV ?_
   refine nE ?_;refine ret2 rfl rfl rfl ?_
   have n2 : ¬ (a < 0 ∨ (l.length : Int) ≤ a ∨ b < 0 ∨ (l.length : Int) ≤ b) := by omega
   have hmx : max (1 : Int) (e.natAbs : Nat) = ((max 1 e.natAbs : Nat) : Int) := by omega
   refine leaf (Ext.refl _ _) (List.sublist_cons_self _ _) ⟨rfl,rfl,?_⟩
   (exfalso; omega)
  have f7 := h7;try simp only [bl] at f7
  refine cK (qg (tC (sR ?_)));iterate 5 refine oV ?_
  refine nE ?_;refine ret2 rfl rfl rfl ?_
  have n2 : ¬ (a < 0 ∨ (l.length : Int) ≤ a ∨ b < 0 ∨ (l.length : Int) ≤ b) := by omega
  have hmx : max (1 : Int) (e.natAbs : Nat) = ((max 1 e.natAbs : Nat) : Int) := by omega
  refine leaf (Ext.refl _ _) (List.sublist_cons_self _ _) ⟨rfl,rfl,?_⟩
  (exfalso; omega)
 have f3 := h3;try simp only [bl] at f3
 refine sR ?_;iterate 2 refine oV ?_
 refine nT ?_;refine cC rfl (fun h4 => ?_) (fun h4 => ?_)
 ·
  have f4 := h4;try simp only [bl] at f4
  refine cK (tC ?_);refine cC rfl (fun h6 => ?_) (fun h6 => ?_)
  ·
   have f6 := h6;try simp only [bl] at f6
   refine cR ?_;iterate 2 refine oV ?_
   refine oF 2 underlying69 sizeOf3 ?_;refine oL isAgg3 ?_;refine zv trivial rfl underlying52 sizeOf3 rfl (by repeat constructor) rfl (by omega) ?_;refine j0 trivial rfl isAgg3 (by repeat constructor) rfl (by rw [Nat.mul_one]; exact qbr (by omega)) ?_
   (refine qh trivial rfl rfl rfl ?_ ?_; (omega))
   refine oV ?_;refine oN (qg (tC (sR ?_)));iterate 5 refine oV ?_
   refine nE ?_;refine ret2 rfl rfl rfl ?_
   have n2 : ¬ (a < 0 ∨ (l.length : Int) ≤ a ∨ b < 0 ∨ (l.length : Int) ≤ b) := by omega
   have hmx : max (1 : Int) (e.natAbs : Nat) = ((max 1 e.natAbs : Nat) : Int) := by omega
   refine leaf (Ext.refl _ _) (List.sublist_cons_self _ _) ⟨rfl,rfl,?_⟩
   (have n3 : 2 ≤ code ∧ code ≤ 5 := by omega
    refine qeu (M := l.getD a.toNat 0 + l.getD b.toNat 0) ?_ (by omega)
    unfold wgt wgtM; dsimp only; rw [if_neg f1,if_neg n2,if_pos n3])
  have f6 := h6;try simp only [bl] at f6
  refine sR ?_;iterate 2 refine oV ?_
  refine nT ?_;refine cC rfl (fun h7 => ?_) (fun h7 => ?_)
  ·
   have f7 := h7;try simp only [bl] at f7
   have he' := he f7
   refine cR ?_;refine oV ?_;refine oF 3 underlying69 sizeOf3 ?_;refine oL isAgg3 ?_;refine oQ call145 rfl (qh1 e (by omega)) ?_;refine qbf trivial rfl rfl rfl ?_
   (refine jy trivial rfl rfl rfl ?_ ?_; (omega))
   refine oV ?_;refine oN (qg (tC (sR ?_)));iterate 5 refine oV ?_
   refine nE ?_;refine ret2 rfl rfl rfl ?_
   have n2 : ¬ (a < 0 ∨ (l.length : Int) ≤ a ∨ b < 0 ∨ (l.length : Int) ≤ b) := by omega
   have hmx : max (1 : Int) (e.natAbs : Nat) = ((max 1 e.natAbs : Nat) : Int) := by omega
   refine leaf (Ext.refl _ _) (List.sublist_cons_self _ _) ⟨rfl,rfl,?_⟩
   (exfalso; omega)
  have f7 := h7;try simp only [bl] at f7
  refine cK (qg (tC (sR ?_)));iterate 5 refine oV ?_
  refine nE ?_;refine ret2 rfl rfl rfl ?_
  have n2 : ¬ (a < 0 ∨ (l.length : Int) ≤ a ∨ b < 0 ∨ (l.length : Int) ≤ b) := by omega
  have hmx : max (1 : Int) (e.natAbs : Nat) = ((max 1 e.natAbs : Nat) : Int) := by omega
  refine leaf (Ext.refl _ _) (List.sublist_cons_self _ _) ⟨rfl,rfl,?_⟩
  (exfalso; omega)
 have f4 := h4;try simp only [bl] at f4
 refine sR ?_;iterate 2 refine oV ?_
 refine nT ?_;refine cC rfl (fun h5 => ?_) (fun h5 => ?_)
 ·
  have f5 := h5;try simp only [bl] at f5
  refine cK (tC ?_);refine cC rfl (fun h6 => ?_) (fun h6 => ?_)
  ·
   have f6 := h6;try simp only [bl] at f6
   refine cR ?_;iterate 2 refine oV ?_
   refine oF 2 underlying69 sizeOf3 ?_;refine oL isAgg3 ?_;refine zv trivial rfl underlying52 sizeOf3 rfl (by repeat constructor) rfl (by omega) ?_;refine j0 trivial rfl isAgg3 (by repeat constructor) rfl (by rw [Nat.mul_one]; exact qbr (by omega)) ?_
   (refine qh trivial rfl rfl rfl ?_ ?_; (omega))
   refine oV ?_;refine oN (qg (tC (sR ?_)));iterate 5 refine oV ?_
   refine nE ?_;refine ret2 rfl rfl rfl ?_
   have n2 : ¬ (a < 0 ∨ (l.length : Int) ≤ a ∨ b < 0 ∨ (l.length : Int) ≤ b) := by omega
   have hmx : max (1 : Int) (e.natAbs : Nat) = ((max 1 e.natAbs : Nat) : Int) := by omega
   refine leaf (Ext.refl _ _) (List.sublist_cons_self _ _) ⟨rfl,rfl,?_⟩
   (have n3 : 2 ≤ code ∧ code ≤ 5 := by omega
    refine qeu (M := l.getD a.toNat 0 + l.getD b.toNat 0) ?_ (by omega)
    unfold wgt wgtM; dsimp only; rw [if_neg f1,if_neg n2,if_pos n3])
  have f6 := h6;try simp only [bl] at f6
  refine sR ?_;iterate 2 refine oV ?_
  refine nT ?_;refine cC rfl (fun h7 => ?_) (fun h7 => ?_)
  ·
   have f7 := h7;try simp only [bl] at f7
   have he' := he f7
   refine cR ?_;refine oV ?_;refine oF 3 underlying69 sizeOf3 ?_;refine oL isAgg3 ?_;refine oQ call145 rfl (qh1 e (by omega)) ?_;refine qbf trivial rfl rfl rfl ?_
   (refine jy trivial rfl rfl rfl ?_ ?_; (omega))
   refine oV ?_;refine oN (qg (tC (sR ?_)));iterate 5 refine oV ?_
   refine nE ?_;refine ret2 rfl rfl rfl ?_
   have n2 : ¬ (a < 0 ∨ (l.length : Int) ≤ a ∨ b < 0 ∨ (l.length : Int) ≤ b) := by omega
   have hmx : max (1 : Int) (e.natAbs : Nat) = ((max 1 e.natAbs : Nat) : Int) := by omega
   refine leaf (Ext.refl _ _) (List.sublist_cons_self _ _) ⟨rfl,rfl,?_⟩
   (exfalso; omega)
  have f7 := h7;try simp only [bl] at f7
  refine cK (qg (tC (sR ?_)));iterate 5 refine oV ?_
  refine nE ?_;refine ret2 rfl rfl rfl ?_
  have n2 : ¬ (a < 0 ∨ (l.length : Int) ≤ a ∨ b < 0 ∨ (l.length : Int) ≤ b) := by omega
  have hmx : max (1 : Int) (e.natAbs : Nat) = ((max 1 e.natAbs : Nat) : Int) := by omega
  refine leaf (Ext.refl _ _) (List.sublist_cons_self _ _) ⟨rfl,rfl,?_⟩
  (exfalso; omega)
 have f5 := h5;try simp only [bl] at f5
 refine cR ?_;iterate 2 refine oV ?_
 refine nT ?_;refine cC rfl (fun h6 => ?_) (fun h6 => ?_)
 ·
  have f6 := h6;try simp only [bl] at f6
  refine cR ?_;iterate 2 refine oV ?_
  refine oF 2 underlying69 sizeOf3 ?_;refine oL isAgg3 ?_;refine zv trivial rfl underlying52 sizeOf3 rfl (by repeat constructor) rfl (by omega) ?_;refine j0 trivial rfl isAgg3 (by repeat constructor) rfl (by rw [Nat.mul_one]; exact qbr (by omega)) ?_
  (refine qh trivial rfl rfl rfl ?_ ?_; (omega))
  refine oV ?_;refine oN (qg (tC (sR ?_)));iterate 5 refine oV ?_
  refine nE ?_;refine ret2 rfl rfl rfl ?_
  have n2 : ¬ (a < 0 ∨ (l.length : Int) ≤ a ∨ b < 0 ∨ (l.length : Int) ≤ b) := by omega
  have hmx : max (1 : Int) (e.natAbs : Nat) = ((max 1 e.natAbs : Nat) : Int) := by omega
  refine leaf (Ext.refl _ _) (List.sublist_cons_self _ _) ⟨rfl,rfl,?_⟩
  (have n3 : 2 ≤ code ∧ code ≤ 5 := by omega
   refine qeu (M := l.getD a.toNat 0 + l.getD b.toNat 0) ?_ (by omega)
   unfold wgt wgtM; dsimp only; rw [if_neg f1,if_neg n2,if_pos n3])
 have f6 := h6;try simp only [bl] at f6
 refine sR ?_;iterate 2 refine oV ?_
 refine nT ?_;refine cC rfl (fun h7 => ?_) (fun h7 => ?_)
 ·
  have f7 := h7;try simp only [bl] at f7
  have he' := he f7
  refine cR ?_;refine oV ?_;refine oF 3 underlying69 sizeOf3 ?_;refine oL isAgg3 ?_;refine oQ call145 rfl (qh1 e (by omega)) ?_;refine qbf trivial rfl rfl rfl ?_;refine oV ?_;refine oV ?_;refine oN (qg (tC (sR ?_)));iterate 5 refine oV ?_
  refine nE ?_;refine ret2 rfl rfl rfl ?_
  have n2 : ¬ (a < 0 ∨ (l.length : Int) ≤ a ∨ b < 0 ∨ (l.length : Int) ≤ b) := by omega
  have hmx : max (1 : Int) (e.natAbs : Nat) = ((max 1 e.natAbs : Nat) : Int) := by omega
  refine leaf (Ext.refl _ _) (List.sublist_cons_self _ _) ⟨rfl,rfl,?_⟩
  (have n3 : ¬ (2 ≤ code ∧ code ≤ 5) := by omega
   have n4 : code = 7 := by omega
   have he' := he n4
   have hm20 : l.getD a.toNat 0 * max 1 e.natAbs ≤ 200 * 20 := Nat.mul_le_mul ga (by omega)
   have e9 : (l.getD a.toNat 0 : Int) * max 1 (e.natAbs : Int) = ((l.getD a.toNat 0 * max 1 e.natAbs : Nat) : Int) := by rw [Int.natCast_mul,hmx]
   rw [e9,IntWalk.i64_in _ (by omega)]
   refine qeu (M := l.getD a.toNat 0 * max 1 e.natAbs) ?_ rfl
   unfold wgt wgtM; dsimp only; rw [if_neg f1,if_neg n2,if_neg n3,if_pos n4])
 have f7 := h7;try simp only [bl] at f7
 refine cK (qg (tC (sR ?_)));iterate 5 refine oV ?_
 refine nE ?_;refine ret2 rfl rfl rfl ?_
 have n2 : ¬ (a < 0 ∨ (l.length : Int) ≤ a ∨ b < 0 ∨ (l.length : Int) ≤ b) := by omega
 have hmx : max (1 : Int) (e.natAbs : Nat) = ((max 1 e.natAbs : Nat) : Int) := by omega
 refine leaf (Ext.refl _ _) (List.sublist_cons_self _ _) ⟨rfl,rfl,?_⟩
 (have n3 : ¬ (2 ≤ code ∧ code ≤ 5) := by omega
  have n4 : ¬ code = 7 := by omega
  refine qeu (M := l.getD a.toNat 0) ?_ rfl
  unfold wgt wgtM; dsimp only; rw [if_neg f1,if_neg n2,if_neg n3,if_neg n4])
def _root_.Go.Tw.NodeC.bare (c : NodeC) : Bool := c.name.toList.isEmpty && qx c.neg c.n c.d
def vj (c : NodeC) : Option Nat :=
 if c.kind = 0 then (if vt c.name && qx c.neg c.n c.d && decide (c.a = 0) && decide (c.b = 0) && decide (c.e = 0) then some 0 else none)
 else if c.kind = 1 then (if c.name.toList.isEmpty && (yb c.neg c.n c.d && !c.neg) && decide (c.a = 0) && decide (c.b = 0) && decide (c.e = 0) then some 0 else none)
 else if 2 ≤ c.kind ∧ c.kind ≤ 5 then (if c.bare && decide (c.e = 0) then some 2 else none)
 else if c.kind = 6 then (if c.bare && decide (c.b = 0) && decide (c.e = 0) then some 1 else none)
 else if c.kind = 7 then (if c.bare && decide (c.b = 0) && decide (-20 ≤ c.e) && decide (c.e ≤ 20) then some 1 else none)
 else none
theorem qqb {s : ByteArray} (h : s.toList.isEmpty = true) : s = ⟨#[]⟩ := by
 have h1 : s.toList = [] := List.isEmpty_iff.1 h
 rw [qb0] at h1
 cases s
 congr
 exact Array.toList_inj.1 (by simpa using h1)
theorem qqc {neg : Bool} {A B : List Nat} : qx neg A B = true ↔ neg = false ∧ A = [] ∧ B = [] := by
 unfold qx
 simp [and_assoc]
theorem _root_.Go.Tw.NodeC.bare_iff {c : NodeC} : c.bare = true ↔ c.name = ⟨#[]⟩ ∧ c.neg = false ∧ c.n = [] ∧ c.d = [] := by
 unfold NodeC.bare
 rw [Bool.and_eq_true,qqc]
 constructor
 · rintro ⟨h1,h2⟩; exact ⟨qqb h1,h2⟩
 · rintro ⟨h1,h2⟩; exact ⟨by rw [h1,ByteArray.toList_eq]; rfl,h2⟩
theorem qkv {t : ByteArray} (h : vt t = true) : vj (refN t) = some 0 := by unfold vj refN; simp [h,qx]
theorem qzy {q : Rat} (h : (Ex.num q).ok) : yb (decide (q.num < 0)) (natW q.num.natAbs) (natW q.den) = true := by
 unfold yb qbm
 rw [qk,qk,qoz]
 simp [h.2.1,h.2.2]
theorem qqd {q : Rat} (h : (Ex.num q).ok) : vj (numN q) = some 0 := by
 have hc := qzy h
 have hn : decide (q.num < 0) = false := decide_eq_false (Int.not_lt.2 h.1)
 rw [hn] at hc
 unfold vj numN
 rw [hn]
 simp [hc]
theorem qkw (a : Int) : vj (negN a) = some 1 := by unfold vj negN NodeC.bare; simp [qx]
theorem qkx {a e : Int} (h : -20 ≤ e ∧ e ≤ 20) : vj (powN a e) = some 1 := by unfold vj powN NodeC.bare; simp [qx,h.1,h.2]
theorem qky {k a b : Int} (h : 2 ≤ k ∧ k ≤ 5) : vj (binN k a b) = some 2 := by
 unfold vj binN NodeC.bare
 simp [qx,h.1,h.2,show ¬ k = 0 by omega,show ¬ k = 1 by omega]
theorem qqe {c : NodeC} (h : vj c = some 0) : ∃ x : Ex,x.ok ∧ x.n = 1 ∧ x.h = 1 ∧ (∀ b,x.nd b = [c]) ∧ x.hs = [1] := by
 unfold vj at h
 split at h
 · rename_i hk
   split at h
   · rename_i hc
     simp only [Bool.and_eq_true,decide_eq_true_eq,qqc] at hc
     obtain ⟨⟨⟨⟨h1,h2,h3,h4⟩,h5⟩,h6⟩,h7⟩ := hc
     refine ⟨.ref c.name,h1,rfl,rfl,fun _ => ?_,rfl⟩
     cases c
     simp_all [Ex.nd,refN]
   · cases h
 · split at h
   · rename_i hk
     split at h
     · rename_i hc
       simp only [Bool.and_eq_true,decide_eq_true_eq,Bool.not_eq_true'] at hc
       obtain ⟨⟨⟨⟨h1,h2,h3⟩,h5⟩,h6⟩,h7⟩ := hc
       have h1 := qqb h1
       unfold yb qbm at h2
       simp only [Bool.and_eq_true,decide_eq_true_eq] at h2
       obtain ⟨⟨⟨⟨g1,g2⟩,g3⟩,g4⟩,g5⟩ := h2
       generalize hq : lowQ c.neg (val c.n) (val c.d) = q at g1 g2 g3
       have hd : ¬ q.num < 0 := by rw [h3] at g1; simpa using g1.symm
       refine ⟨.num q,⟨by omega,?_,?_⟩,rfl,rfl,fun _ => ?_,rfl⟩
       · rw [g2,qk] at g4; exact g4
       · rw [g3,qk] at g5; exact g5
       · cases c
         simp_all [Ex.nd,numN]
     · cases h
   · split at h
     · split at h <;> cases h
     · split at h
       · split at h <;> cases h
       · split at h
         · split at h <;> cases h
         · cases h
theorem qkz {c : NodeC} (h : vj c = some 1) : c = negN c.a ∨ (c = powN c.a c.e ∧ -20 ≤ c.e ∧ c.e ≤ 20) := by
 unfold vj at h
 split at h
 · split at h <;> cases h
 · split at h
   · split at h <;> cases h
   · split at h
     · split at h <;> cases h
     · split at h
       · rename_i hk
         split at h
         · rename_i hc
           simp only [Bool.and_eq_true,decide_eq_true_eq,NodeC.bare_iff] at hc
           left
           cases c
           simp_all [negN]
         · cases h
       · split at h
         · rename_i hk
           split at h
           · rename_i hc
             simp only [Bool.and_eq_true,decide_eq_true_eq,NodeC.bare_iff] at hc
             right
             refine ⟨?_,hc.1.2,hc.2⟩
             cases c
             simp_all [powN]
           · cases h
         · cases h
theorem qk0 {c : NodeC} (h : vj c = some 2) : c = binN c.kind c.a c.b ∧ 2 ≤ c.kind ∧ c.kind ≤ 5 := by
 unfold vj at h
 split at h
 · split at h <;> cases h
 · split at h
   · split at h <;> cases h
   · split at h
     · rename_i hk
       split at h
       · rename_i hc
         simp only [Bool.and_eq_true,decide_eq_true_eq,NodeC.bare_iff] at hc
         refine ⟨?_,hk⟩
         cases c
         simp_all [binN]
       · cases h
     · split at h
       · split at h <;> cases h
       · split at h
         · split at h <;> cases h
         · cases h
theorem qk1 {c : NodeC} {k : Nat} (h : vj c = some k) : k ≤ 2 := by
 unfold vj at h
 repeat' split at h
 all_goals first | (cases h; decide) | cases h
def qac (c : NodeC) (fr : Int) : List Nat → Bool
 | [] => true
 | [x] => decide (c.a = x + fr)
 | [x,y] => decide (c.a = x + fr) && decide (c.b = y + fr)
 | _ => false
def hOf (out : List Nat) (made : List Nat) : Nat := (made.map fun x => out.getD x 0).foldl max 0
def jh (fr : Int) (st : List Nat × List Nat) (c : NodeC) : Option (List Nat × List Nat) :=
 match vj c with
 | none => none
 | some k => if k ≤ st.2.length ∧ qac c fr (st.2.drop (st.2.length - k)) = true then some (st.1 ++ [hOf st.1 (st.2.drop (st.2.length - k)) + 1],st.2.take (st.2.length - k) ++ [st.1.length]) else none
def runH (fr : Int) : List NodeC → List Nat × List Nat → Option (List Nat × List Nat)
 | [],st => some st
 | c :: l,st => (jh fr st c).bind (runH fr l)
theorem qcu (fr : Int) : ∀ (l m : List NodeC) (st : List Nat × List Nat), runH fr (l ++ m) st = (runH fr l st).bind (runH fr m)
 | [],m,st => rfl
 | c :: l, m, st => by
   show (jh fr st c).bind (runH fr (l ++ m)) = ((jh fr st c).bind (runH fr l)).bind (runH fr m)
   cases jh fr st c with
   | none => rfl
   | some s => exact qcu fr l m s
theorem qev (fr : Int) (c : NodeC) (st : List Nat × List Nat) : runH fr [c] st = jh fr st c := by
 show (jh fr st c).bind _ = _
 cases jh fr st c <;> rfl
theorem qk2 {α : Type} (S : List α) (x : α) : (S ++ [x]).take ((S ++ [x]).length - 1) = S ∧ (S ++ [x]).drop ((S ++ [x]).length - 1) = [x] := by simp
theorem qqf {α : Type} (S : List α) (x y : α) : (S ++ [x] ++ [y]).take ((S ++ [x] ++ [y]).length - 2) = S ∧ (S ++ [x] ++ [y]).drop ((S ++ [x] ++ [y]).length - 2) = [x,y] := by simp
theorem qdo (out : List Nat) (x : Ex) (m : List Nat) : (out ++ x.hs ++ m).getD (out.length + x.n - 1) 0 = x.h := by
 have h1 := x.n_pos
 have := x.hs_last
 rw [List.getD_eq_getElem?_getD,List.append_assoc,List.getElem?_append_right (by omega),List.getElem?_append_left (by rw [x.hs_len]; omega),show out.length + x.n - 1 - out.length = x.n - 1 by omega,this]
 rfl
theorem qzz (fr : Int) : ∀ (x : Ex) (out S : List Nat) (b : Nat),x.ok → (b : Int) = fr + out.length → runH fr (x.nd b) (out,S) = some (out ++ x.hs,S ++ [out.length + x.n - 1]) := by
 intro x
 induction x with
 | ref t =>
   intro out S b hok hb
   show runH fr [refN t] _ = _
   rw [qev]
   unfold jh
   rw [qkv hok]
   dsimp only
   rw [if_pos ⟨by omega,by simp [qac]⟩]
   simp [hOf,Ex.hs,Ex.n]
 | num q =>
   intro out S b hok hb
   show runH fr [numN q] _ = _
   rw [qev]
   unfold jh
   rw [qqd hok]
   dsimp only
   rw [if_pos ⟨by omega,by simp [qac]⟩]
   simp [hOf,Ex.hs,Ex.n]
 | neg x ih =>
   intro out S b hok hb
   show runH fr (x.nd b ++ [negN _]) _ = _
   rw [qcu,ih out S b hok hb]
   show runH fr [negN _] _ = _
   rw [qev]
   unfold jh
   rw [qkw]
   dsimp only
   obtain ⟨e1,e2⟩ := qk2 S (out.length + x.n - 1)
   have h1 := x.n_pos
   have hg := qdo out x []
   rw [List.append_nil] at hg
   rw [e1,e2,if_pos ⟨by simp,decide_eq_true (show (b : Int) + x.n - 1 = ((out.length + x.n - 1 : Nat) : Int) + fr by omega)⟩]
   simp only [hOf,List.map_cons,List.map_nil,List.foldl_cons,List.foldl_nil,hg,Ex.hs,Ex.n,List.length_append,x.hs_len,Nat.zero_max,List.append_assoc]
   rfl
 | pow x e ih =>
   intro out S b hok hb
   show runH fr (x.nd b ++ [powN _ e]) _ = _
   rw [qcu,ih out S b hok.1 hb]
   show runH fr [powN _ e] _ = _
   rw [qev]
   unfold jh
   rw [qkx hok.2]
   dsimp only
   obtain ⟨e1,e2⟩ := qk2 S (out.length + x.n - 1)
   have h1 := x.n_pos
   have hg := qdo out x []
   rw [List.append_nil] at hg
   rw [e1,e2,if_pos ⟨by simp,decide_eq_true (show (b : Int) + x.n - 1 = ((out.length + x.n - 1 : Nat) : Int) + fr by omega)⟩]
   simp only [hOf,List.map_cons,List.map_nil,List.foldl_cons,List.foldl_nil,hg,Ex.hs,Ex.n,List.length_append,x.hs_len,Nat.zero_max,List.append_assoc]
   rfl
 | bin k x y ih1 ih2 =>
   intro out S b hok hb
   obtain ⟨k1,k2,o1,o2⟩ := hok
   have h1 := x.n_pos
   have h2 := y.n_pos
   show runH fr (x.nd b ++ y.nd (b + x.n) ++ [binN k _ _]) _ = _
   rw [qcu,qcu,ih1 out S b o1 hb]
   show (runH fr (y.nd (b + x.n)) (out ++ x.hs,S ++ [out.length + x.n - 1])).bind _ = _
   rw [ih2 (out ++ x.hs) (S ++ [out.length + x.n - 1]) (b + x.n) o2 (by rw [List.length_append,x.hs_len]; omega)]
   show runH fr [binN k _ _] _ = _
   rw [qev]
   unfold jh
   rw [qky ⟨k1,k2⟩]
   dsimp only
   obtain ⟨e1,e2⟩ := qqf S (out.length + x.n - 1) ((out ++ x.hs).length + y.n - 1)
   have hg1 := qdo out x y.hs
   have hg2 := qdo (out ++ x.hs) y []
   rw [List.append_nil] at hg2
   rw [e1,e2,if_pos ⟨by simp,by simp only [qac,Bool.and_eq_true]; exact ⟨decide_eq_true (show (b : Int) + x.n - 1 = ((out.length + x.n - 1 : Nat) : Int) + fr by omega),decide_eq_true (show (b : Int) + x.n + y.n - 1 = (((out ++ x.hs).length + y.n - 1 : Nat) : Int) + fr by rw [List.length_append,x.hs_len]; omega)⟩⟩]
   simp only [hOf,List.map_cons,List.map_nil,List.foldl_cons,List.foldl_nil,hg1,hg2,Nat.zero_max]
   simp only [Ex.hs,Ex.n,List.length_append,x.hs_len,y.hs_len,List.append_assoc]
   congr 4
def fnd : List Ex → Nat → List NodeC
 | [],_ => []
 | x :: l,b => x.nd b ++ fnd l (b + x.n)
def flen : List Ex → Nat
 | [] => 0
 | x :: l => x.n + flen l
def fpos : List Ex → Nat → List Nat
 | [],_ => []
 | x :: l,b => (b + x.n - 1) :: fpos l (b + x.n)
def fhs (l : List Ex) : List Nat := (l.map Ex.hs).flatten
theorem qf5 : ∀ (l : List Ex), (fhs l).length = flen l
 | [] => rfl
 | x :: l => by
   have := qf5 l
   simp only [fhs] at *
   simp [flen,x.hs_len,this]
theorem qew : ∀ (l m : List Ex), flen (l ++ m) = flen l + flen m
 | [],m => by simp [flen]
 | x :: l,m => by simp [flen,qew l m,Nat.add_assoc]
theorem qdp : ∀ (l m : List Ex) (b : Nat), fnd (l ++ m) b = fnd l b ++ fnd m (b + flen l)
 | [],m,b => by simp [fnd,flen]
 | x :: l,m,b => by simp [fnd,flen,qdp l m,Nat.add_assoc]
theorem qdq : ∀ (l m : List Ex) (b : Nat), fpos (l ++ m) b = fpos l b ++ fpos m (b + flen l)
 | [],m,b => by simp [fpos,flen]
 | x :: l,m,b => by simp [fpos,flen,qdq l m,Nat.add_assoc]
theorem qa4 (l m : List Ex) : fhs (l ++ m) = fhs l ++ fhs m := by simp [fhs]
theorem qk3 : ∀ (l : List Ex) (b : Nat), (fpos l b).length = l.length
 | [],_ => rfl
 | x :: l,b => by simp [fpos,qk3 l]
theorem qz0 (b : Nat) (l : List NodeC) : ∀ st,runH (b : Int) l ([],[]) = some st → ∃ fs : List Ex,(∀ x ∈ fs,x.ok) ∧ l = fnd fs b ∧ st.1 = fhs fs ∧ st.2 = fpos fs 0 := by
 refine qpp (motive := fun l => ∀ st,runH (b : Int) l ([],[]) = some st → ∃ fs : List Ex,(∀ x ∈ fs,x.ok) ∧ l = fnd fs b ∧ st.1 = fhs fs ∧ st.2 = fpos fs 0) ?_ ?_ l
 · intro st h; cases h; exact ⟨[],fun x hx => (by cases hx),rfl,rfl,rfl⟩
 · intro l c ih st h
   rw [qcu] at h
   cases hr : runH (b : Int) l ([],[]) with
   | none => rw [hr] at h; cases h
   | some s1 =>
     rw [hr] at h
     change runH (b : Int) [c] s1 = some st at h
     rw [qev] at h
     obtain ⟨fs,hok,e1,e2,e3⟩ := ih _ hr
     unfold jh at h
     cases hp : vj c with
     | none => rw [hp] at h; cases h
     | some k =>
       rw [hp] at h
       dsimp only at h
       split at h
       · rename_i hc
         cases h
         have hk := qk1 hp
         have hlen : s1.2.length = fs.length := by rw [e3,qk3]
         have hout : s1.1.length = flen fs := by rw [e2,qf5]
         rcases (by omega : k = 0 ∨ k = 1 ∨ k = 2) with rfl | rfl | rfl
         · obtain ⟨x, q1, q2, q3, q4, q5⟩ := qqe hp
           refine ⟨fs ++ [x],fun y hy => ?_,?_,?_,?_⟩
           · rcases List.mem_append.1 hy with hy | hy
             · exact hok y hy
             · rw [List.mem_singleton.1 hy]; exact q1
           · rw [qdp,e1]; simp [fnd,q4]
           · dsimp only; rw [qa4,e2]; simp [hOf,fhs,q5]
           · dsimp only; rw [qdq,e3,hout]; simp [fpos,q2]
         · obtain ⟨fs,x,rfl⟩ : ∃ fs' x,fs = fs' ++ [x] := by
             rcases List.eq_nil_or_concat fs with rfl | ⟨a,b',rfl⟩
             · have := hc.1; rw [hlen] at this; simp at this
             · exact ⟨a,b',by simp⟩
           have h1 := x.n_pos
           have ep : fpos (fs ++ [x]) 0 = fpos fs 0 ++ [flen fs + x.n - 1] := by rw [qdq]; simp [fpos]
           rw [ep] at e3
           obtain ⟨t1,t2⟩ := qk2 (fpos fs 0) (flen fs + x.n - 1)
           rw [e3] at hc ⊢
           rw [t1,t2]
           rw [t2] at hc
           have hm := hc.2
           simp only [qac,decide_eq_true_eq] at hm
           have hx : x.ok := hok x (by simp)
           have hf : ∀ y ∈ fs,y.ok := fun y hy => hok y (by simp [hy])
           have hg : s1.1.getD (flen fs + x.n - 1) 0 = x.h := by
             have := qdo (fhs fs) x []
             rw [qf5] at this
             rw [e2,qa4,← this]; simp [fhs]
           have key : ∀ y : Ex,y.ok → y.n = x.n + 1 → y.hs = x.hs ++ [x.h + 1] → y.nd (b + flen fs) = x.nd (b + flen fs) ++ [c] → ∃ fs1 : List Ex,(∀ x ∈ fs1,x.ok) ∧ l ++ [c] = fnd fs1 b ∧ s1.1 ++ [hOf s1.1 [flen fs + x.n - 1] + 1] = fhs fs1 ∧ fpos fs 0 ++ [s1.1.length] = fpos fs1 0 := by
             intro y hy hn hh hnd
             refine ⟨fs ++ [y],fun z hz => ?_,?_,?_,?_⟩
             · rcases List.mem_append.1 hz with hz | hz
               · exact hf z hz
               · rw [List.mem_singleton.1 hz]; exact hy
             · rw [qdp,e1,qdp]; simp [fnd,hnd]
             · rw [e2,qa4,qa4]; simp [fhs,hh,hOf]; rw [e2] at hg; simp [fhs] at hg; exact hg
             · rw [qdq,hout,qew]; simp [fpos,flen,hn]
           rcases qkz hp with ec | ⟨ec,he⟩
           · refine key (.neg x) hx rfl rfl ?_
             rw [ec]
             simp only [Ex.nd]
             congr 3
             omega
           · refine key (.pow x c.e) ⟨hx, he⟩ rfl rfl ?_
             conv => rhs; rw [ec]
             simp only [Ex.nd]
             congr 3
             omega
         · obtain ⟨fs,x,y,rfl⟩ : ∃ fs' x y,fs = fs' ++ [x] ++ [y] := by
             rcases List.eq_nil_or_concat fs with rfl | ⟨a,b',rfl⟩
             · have := hc.1; rw [hlen] at this; simp at this
             · rcases List.eq_nil_or_concat a with rfl | ⟨a2, b2, rfl⟩
               · have := hc.1; rw [hlen] at this; simp at this
               · exact ⟨a2,b2,b',by simp⟩
           have h1 := x.n_pos
           have h2 := y.n_pos
           have ep : fpos (fs ++ [x] ++ [y]) 0 = fpos fs 0 ++ [flen fs + x.n - 1] ++ [flen fs + x.n + y.n - 1] := by rw [qdq,qdq,qew]; simp [fpos,flen]
           rw [ep] at e3
           obtain ⟨t1,t2⟩ := qqf (fpos fs 0) (flen fs + x.n - 1) (flen fs + x.n + y.n - 1)
           rw [e3] at hc ⊢
           rw [t1,t2]
           rw [t2] at hc
           have hm := hc.2
           simp only [qac,Bool.and_eq_true,decide_eq_true_eq] at hm
           have hx : x.ok := hok x (by simp)
           have hy : y.ok := hok y (by simp)
           have hf : ∀ y ∈ fs,y.ok := fun y hy => hok y (by simp [hy])
           have hg1 : s1.1.getD (flen fs + x.n - 1) 0 = x.h := by
             have := qdo (fhs fs) x y.hs
             rw [qf5] at this
             rw [e2,qa4,qa4,← this]; simp [fhs]
           have hg2 : s1.1.getD (flen fs + x.n + y.n - 1) 0 = y.h := by
             have := qdo (fhs fs ++ x.hs) y []
             rw [List.length_append,qf5,x.hs_len] at this
             rw [e2,qa4,qa4,← this]; simp [fhs]
           obtain ⟨ec,hk2⟩ := qk0 hp
           refine ⟨fs ++ [.bin c.kind x y],fun z hz => ?_,?_,?_,?_⟩
           · rcases List.mem_append.1 hz with hz | hz
             · exact hf z hz
             · rw [List.mem_singleton.1 hz]; exact ⟨hk2.1,hk2.2,hx,hy⟩
           · rw [qdp, e1, qdp, qdp, qew]
             simp only [fnd,Ex.nd,List.append_nil,List.append_assoc,flen]
             congr 3
             · rw [Nat.add_zero,Nat.add_assoc]
             · conv => lhs; rw [ec]
               congr 2 <;> omega
           · dsimp only
             simp only [hOf,List.map_cons,List.map_nil,List.foldl_cons,List.foldl_nil,hg1,hg2,Nat.zero_max]
             rw [e2,qa4,qa4,qa4]; simp [fhs,Ex.hs]
           · dsimp only
             rw [qdq,hout,qew,qew]; simp [fpos,flen,Ex.n]; omega
       · cases h
def hZ (l : List NodeC) (b : Nat) : Option (List Nat) := match runH (b : Int) l ([], []) with
 | some (out,[_]) => some out
 | _ => none
theorem qz1 {x : Ex} (h : x.ok) (b : Nat) : hZ (x.nd b) b = some x.hs := by
 unfold hZ
 rw [qzz (b : Int) x [] [] b h (by simp)]
 simp
theorem qqg {l : List NodeC} {b : Nat} {out : List Nat} (h : hZ l b = some out) : ∃ x : Ex,x.ok ∧ l = x.nd b ∧ out = x.hs := by
 unfold hZ at h
 split at h
 · rename_i o z hr
   cases h
   obtain ⟨fs,h1,h2,h3,h4⟩ := qz0 b l _ hr
   dsimp only at h3 h4
   have hl := congrArg List.length h4
   rw [qk3] at hl
   obtain ⟨x,rfl⟩ := List.length_eq_one_iff.1 hl.symm
   exact ⟨x,h1 x (by simp),by rw [h2]; simp [fnd],by rw [h3]; simp [fhs]⟩
 · cases h
structure qa5 (p : qv) (l : List (ByteArray × Ex)) : Prop extends Shaped p l where
 ins : qat p.ins ∧ 1 ≤ p.ins.length ∧ p.ins.length ≤ 40
 outs : qat p.outs ∧ 1 ≤ p.outs.length ∧ p.outs.length ≤ 40
 few : l.length ≤ 40 ∧ p.all.length ≤ 400
 low : ∀ a ∈ l,a.2.h ≤ 60
theorem _root_.Go.Tw.Ex.hs_le (x : Ex) : ∀ k ∈ x.hs,k ≤ x.h := by
 induction x with
 | ref t => intro k hk; simp [Ex.hs] at hk; subst hk; exact Nat.le_refl _
 | num q => intro k hk; simp [Ex.hs] at hk; subst hk; exact Nat.le_refl _
 | neg x ih =>
   intro k hk
   simp only [Ex.hs,List.mem_append,List.mem_singleton] at hk
   rcases hk with hk | rfl
   · have := ih k hk; simp only [Ex.h]; omega
   · exact Nat.le_refl _
 | pow x e ih =>
   intro k hk
   simp only [Ex.hs,List.mem_append,List.mem_singleton] at hk
   rcases hk with hk | rfl
   · have := ih k hk; simp only [Ex.h]; omega
   · exact Nat.le_refl _
 | bin _ x y ih1 ih2 =>
   intro k hk
   simp only [Ex.hs,List.mem_append,List.mem_singleton] at hk
   rcases hk with (hk | hk) | rfl
   · have := ih1 k hk; simp only [Ex.h]; omega
   · have := ih2 k hk; simp only [Ex.h]; omega
   · exact Nat.le_refl _
theorem _root_.Go.Tw.Ex.h_le (x : Ex) : x.h ≤ x.n := by
 induction x with
 | ref t => exact Nat.le_refl _
 | num q => exact Nat.le_refl _
 | neg x ih => simp only [Ex.h,Ex.n]; omega
 | pow x e ih => simp only [Ex.h,Ex.n]; omega
 | bin k x y ih1 ih2 => simp only [Ex.h,Ex.n]; omega
theorem _root_.Go.Tw.Ex.h_mem (x : Ex) : x.h ∈ x.hs := List.mem_of_getElem? x.hs_last
theorem qqh {x : Ex} {m : Nat} : (∀ k ∈ x.hs,k ≤ m) ↔ x.h ≤ m := ⟨fun h => h _ x.h_mem,fun h k hk => Nat.le_trans (x.hs_le k hk) h⟩
theorem qh2 {l : List (ByteArray × Ex)} {m : Nat} : (∀ k ∈ jo l,k ≤ m) ↔ ∀ a ∈ l,a.2.h ≤ m := by
 unfold jo
 constructor
 · intro h a ha
   exact qqh.1 fun k hk => h k (List.mem_flatten.2 ⟨_,List.mem_map.2 ⟨a,ha,rfl⟩,hk⟩)
 · intro h k hk
   obtain ⟨_,h1,h2⟩ := List.mem_flatten.1 hk
   obtain ⟨a,ha,rfl⟩ := List.mem_map.1 h1
   exact qqh.2 (h a ha) k h2
theorem qh3 : ∀ (l : List (ByteArray × Ex)) (b : Nat), (laid l b).2.length = (jo l).length
 | [],_ => rfl
 | (s, x) :: l, b => by
   have := qh3 l (b + x.n)
   simp only [jo] at *
   simp [laid,x.nd_len,x.hs_len,this]
def jx (l : List ByteArray) : Bool := l.all vt
theorem qcv {l : List ByteArray} : jx l = true ↔ qat l := by unfold jx qat; simp
def tGo (all : List NodeC) : List LetC → List Nat → Option (List Nat)
 | [],out => some out
 | c :: ls,out => if vt c.name = true ∧ (out.length : Int) ≤ c.root ∧ c.root < all.length then (hZ ((all.take (c.root + 1).toNat).drop out.length) out.length).bind fun h => tGo all ls (out ++ h) else none
def tZ (p : qv) : Option (List Nat) :=
 if jx p.ins = true ∧ 1 ≤ p.ins.length ∧ p.ins.length ≤ 40 ∧ jx p.outs = true ∧ 1 ≤ p.outs.length ∧ p.outs.length ≤ 40 ∧ p.lets.length ≤ 40 ∧ p.all.length ≤ 400 then
   (tGo p.all p.lets []).bind fun out => if (∀ k ∈ out,k ≤ 60) ∧ out.length = p.all.length then some out else none
 else none
theorem qz2 {all : List NodeC} {b : Nat} {x : Ex} {rest : List NodeC} {pre : List NodeC} (hb : pre.length = b) (h : all = pre ++ (x.nd b ++ rest)) : (all.take ((b : Int) + x.n - 1 + 1).toNat).drop b = x.nd b := by
 have e : ((b : Int) + x.n - 1 + 1).toNat = b + x.n := by omega
 rw [e,h,← hb,List.take_length_add_append,List.drop_left,List.take_append_of_le_length (by rw [x.nd_len]; exact Nat.le_refl _),List.take_of_length_le (by rw [x.nd_len]; exact Nat.le_refl _)]
theorem qqi (all : List NodeC) : ∀ (l : List (ByteArray × Ex)) (pre : List NodeC) (out : List Nat) (rest : List NodeC), jv l → pre.length = out.length → all = pre ++ ((laid l out.length).2 ++ rest) → tGo all (laid l out.length).1 out = some (out ++ jo l)
 | [],pre,out,rest,_,_,_ => by simp [laid,tGo,jo]
 | (s, x) :: l, pre, out, rest, hl, hp, ha => by
   have h1 := x.n_pos
   obtain ⟨g1,g2⟩ := hl (s,x) (by simp)
   simp only [laid,tGo]
   have hlen : all.length = out.length + x.n + ((laid l (out.length + x.n)).2.length + rest.length) := by rw [ha]; simp [laid,x.nd_len,hp]; omega
   rw [if_pos ⟨g1,by omega,by omega⟩]
   have ha2 : all = pre ++ (x.nd out.length ++ ((laid l (out.length + x.n)).2 ++ rest)) := by rw [ha]; simp [laid]
   rw [qz2 hp ha2,qz1 g2]
   have ih := qqi all l (pre ++ x.nd out.length) (out ++ x.hs) rest (fun a h => hl a (by simp [h])) (by simp [x.nd_len,x.hs_len,hp]) (by rw [ha2]; simp [x.hs_len])
   rw [List.length_append,x.hs_len] at ih
   show tGo all _ _ = _
   rw [ih]
   simp [jo]
theorem qqj (all : List NodeC) {o : List Nat} : ∀ (ls : List LetC) (l0 : List (ByteArray × Ex)) (out : List Nat), jv l0 → all.take out.length = (laid l0 0).2 → out = jo l0 → out.length ≤ all.length → tGo all ls out = some o → ∃ l, jv l ∧ (laid l0 0).1 ++ ls = (laid l 0).1 ∧ all.take o.length = (laid l 0).2 ∧ o = jo l ∧ o.length ≤ all.length
 | [], l0, out, h1, h2, h3, h4, h => by
   cases h
   exact ⟨l0,h1,by simp,h2,h3,h4⟩
 | c :: ls, l0, out, h1, h2, h3, h4, h => by
   unfold tGo at h
   split at h
   · rename_i hc
     cases hh : hZ ((all.take (c.root + 1).toNat).drop out.length) out.length with
     | none => rw [hh] at h; cases h
     | some hs =>
       rw [hh] at h
       change tGo all ls (out ++ hs) = some o at h
       obtain ⟨x,q1,q2,q3⟩ := qqg hh
       have hl := congrArg List.length q2
       rw [x.nd_len,List.length_drop,List.length_take] at hl
       have hlen : out.length + x.n = (c.root + 1).toNat := by omega
       have htk : all.take (out ++ hs).length = (laid l0 0).2 ++ x.nd out.length := by
         rw [q3,List.length_append,x.hs_len,hlen,← q2,← h2]
         have := List.take_append_drop out.length (all.take (c.root + 1).toNat)
         rw [List.take_take,Nat.min_eq_left (by omega)] at this
         exact this.symm
       have e0 : (laid l0 0).2.length = out.length := by rw [qh3,h3]
       have hm := qes c.name x l0 0
       obtain ⟨l, k1, k2, k3⟩ := qqj (o := o) all ls (l0 ++ [(c.name, x)]) (out ++ hs) (fun a ha => by
         rcases List.mem_append.1 ha with ha | ha
         · exact h1 a ha
         · rw [List.mem_singleton.1 ha]; exact ⟨hc.1,q1⟩) (by rw [htk,hm]; simp [e0]) (by rw [h3,q3]; simp [jo]) (by rw [q3,List.length_append,x.hs_len]; omega) h
       refine ⟨l,k1,?_,k3⟩
       rw [← k2,hm]
       simp only [List.append_assoc,List.singleton_append]
       congr 2
       cases c with
       | mk nm rt =>
         congr 1
         dsimp only at hlen hc
         rw [e0]
         omega
   · cases h
theorem qk4 {p : qv} {l : List (ByteArray × Ex)} (h : qa5 p l) : tZ p = some (jo l) := by
 have hlets : p.lets.length = l.length := by rw [h.lets,qdn]
 have hall : p.all.length = (jo l).length := by rw [h.all,qh3]
 unfold tZ
 rw [if_pos ⟨qcv.2 h.ins.1,h.ins.2.1,h.ins.2.2,qcv.2 h.outs.1,h.outs.2.1,h.outs.2.2,by rw [hlets]; exact h.few.1,h.few.2⟩]
 have := qqi p.all l [] [] [] h.ok rfl (by simp [h.all])
 rw [h.lets]
 change tGo p.all (laid l 0).1 [] = _ at this
 rw [this]
 show (if _ then _ else _) = _
 rw [List.nil_append,if_pos ⟨qh2.2 h.low,hall.symm⟩]
theorem qz3 {p : qv} {o : List Nat} (h : tZ p = some o) : ∃ l,qa5 p l ∧ o = jo l := by
 unfold tZ at h
 split at h
 · rename_i hc
   obtain ⟨c1,c2,c3,c4,c5,c6,c7,c8⟩ := hc
   cases hg : tGo p.all p.lets [] with
   | none => rw [hg] at h; cases h
   | some out =>
     rw [hg] at h
     change (if _ then _ else _) = _ at h
     split at h
     · rename_i hc2
       cases h
       obtain ⟨l,k1,k2,k3,k4,k5⟩ := qqj (o := o) p.all p.lets [] [] (fun a ha => by cases ha) rfl rfl (by simp) hg
       rw [hc2.2,List.take_length] at k3
       have k2' : p.lets = (laid l 0).1 := k2
       refine ⟨l,⟨⟨k2',k3,k1⟩,⟨qcv.1 c1,c2,c3⟩,⟨qcv.1 c4,c5,c6⟩,⟨by rw [← qdn l 0,← k2']; exact c7,c8⟩,?_⟩,k4⟩
       rw [k4] at hc2
       exact qh2.1 hc2.1
     · cases h
 · cases h
theorem qex {p : qv} : (tZ p).isSome = true ↔ ∃ l, qa5 p l :=
 ⟨fun h => by
   cases e : tZ p with
   | none => rw [e] at h; cases h
   | some o => obtain ⟨l,h1,_⟩ := qz3 e; exact ⟨l,h1⟩,fun ⟨l,h⟩ => by rw [qk4 h]; rfl⟩
def begZ (l : List NodeC) (fr : Int) : Nat → Int → Int
 | 0,_ => fr - 1
 | f + 1, i => if i < fr then fr - 1 else match l[i.toNat]? with
   | none => fr - 1
   | some n => if n.kind = 0 ∨ n.kind = 1 then i
     else if n.kind = 6 ∨ n.kind = 7 then (if n.a ≠ i - 1 then fr - 1 else begZ l fr f n.a)
     else if n.b ≠ i - 1 then fr - 1
     else if begZ l fr f n.b < fr ∨ n.a ≠ begZ l fr f n.b - 1 then fr - 1 else begZ l fr f n.a
theorem qz4 {l : List NodeC} {fr : Int} (hfr : 0 ≤ fr) : ∀ (x : Ex) (b f : Nat),x.ok → At l b x → fr ≤ b → b + x.n ≤ f → begZ l fr f ((b : Int) + x.n - 1) = b := by
 intro x
 induction x with
 | ref t =>
   intro b f _ h hb hf
   obtain ⟨f,rfl⟩ : ∃ g,f = g + 1 := ⟨f - 1,by simp [Ex.n] at hf; omega⟩
   have := h 0 _ rfl
   have e : ((b : Int) + (Ex.ref t).n - 1).toNat = b + 0 := by simp [Ex.n]
   unfold begZ
   rw [e,this,if_neg (by simp [Ex.n]; omega)]
   simp [refN,Ex.n]
 | num q =>
   intro b f _ h hb hf
   obtain ⟨f,rfl⟩ : ∃ g,f = g + 1 := ⟨f - 1,by simp [Ex.n] at hf; omega⟩
   have := h 0 _ rfl
   have e : ((b : Int) + (Ex.num q).n - 1).toNat = b + 0 := by simp [Ex.n]
   unfold begZ
   rw [e,this,if_neg (by simp [Ex.n]; omega)]
   simp [numN,Ex.n]
 | neg x ih =>
   intro b f hok h hb hf
   obtain ⟨f,rfl⟩ : ∃ g,f = g + 1 := ⟨f - 1,by simp [Ex.n] at hf; omega⟩
   have hl := At.left h (u := x.nd b) rfl
   have hr := At.right h (u := x.nd b) rfl 0 _ rfl
   rw [x.nd_len] at hr
   have h1 := x.n_pos
   have e : ((b : Int) + (Ex.neg x).n - 1).toNat = b + x.n + 0 := by simp [Ex.n]; omega
   unfold begZ
   rw [e,hr,if_neg (by simp [Ex.n]; omega)]
   show (if (6 : Int) = 0 ∨ (6 : Int) = 1 then _ else if (6 : Int) = 6 ∨ (6 : Int) = 7 then (if (b : Int) + x.n - 1 ≠ (b : Int) + (Ex.neg x).n - 1 - 1 then fr - 1 else begZ l fr f ((b : Int) + x.n - 1)) else _) = _
   rw [if_neg (by decide),if_pos (by decide),if_neg (by simp [Ex.n]; omega)]
   exact ih b f hok hl hb (by simp [Ex.n] at hf; omega)
 | pow x e0 ih =>
   intro b f hok h hb hf
   obtain ⟨f,rfl⟩ : ∃ g,f = g + 1 := ⟨f - 1,by simp [Ex.n] at hf; omega⟩
   have hl := At.left h (u := x.nd b) rfl
   have hr := At.right h (u := x.nd b) rfl 0 _ rfl
   rw [x.nd_len] at hr
   have h1 := x.n_pos
   have e : ((b : Int) + (Ex.pow x e0).n - 1).toNat = b + x.n + 0 := by simp [Ex.n]; omega
   unfold begZ
   rw [e,hr,if_neg (by simp [Ex.n]; omega)]
   show (if (7 : Int) = 0 ∨ (7 : Int) = 1 then _ else if (7 : Int) = 6 ∨ (7 : Int) = 7 then (if (b : Int) + x.n - 1 ≠ (b : Int) + (Ex.pow x e0).n - 1 - 1 then fr - 1 else begZ l fr f ((b : Int) + x.n - 1)) else _) = _
   rw [if_neg (by decide),if_pos (by decide),if_neg (by simp [Ex.n]; omega)]
   exact ih b f hok.1 hl hb (by simp [Ex.n] at hf; omega)
 | bin k x y ih1 ih2 =>
   intro b f hok h hb hf
   obtain ⟨f,rfl⟩ : ∃ g,f = g + 1 := ⟨f - 1,by simp [Ex.n] at hf; omega⟩
   have hxy := At.left h (u := x.nd b ++ y.nd (b + x.n)) rfl
   have hl := At.left hxy (u := x.nd b) rfl
   have hm := At.right hxy (u := x.nd b) rfl
   rw [x.nd_len] at hm
   have hr := At.right h (u := x.nd b ++ y.nd (b + x.n)) rfl 0 _ rfl
   rw [List.length_append,x.nd_len,y.nd_len] at hr
   have h1 := x.n_pos
   have h2 := y.n_pos
   have e : ((b : Int) + (Ex.bin k x y).n - 1).toNat = b + (x.n + y.n) + 0 := by simp [Ex.n]; omega
   obtain ⟨k1,k2,o1,o2⟩ := hok
   have hf' : b + x.n + y.n ≤ f := by simp [Ex.n] at hf; omega
   have i2 := ih2 (b + x.n) f o2 hm (by omega) (by omega)
   rw [show (((b + x.n : Nat) : Int) + y.n - 1) = (b : Int) + x.n + y.n - 1 by omega] at i2
   have i1 := ih1 b f o1 hl hb (by omega)
   unfold begZ
   rw [e,hr,if_neg (by simp [Ex.n]; omega)]
   show (if k = 0 ∨ k = 1 then _ else if k = 6 ∨ k = 7 then _ else if (b : Int) + x.n + y.n - 1 ≠ (b : Int) + (Ex.bin k x y).n - 1 - 1 then fr - 1 else if begZ l fr f ((b : Int) + x.n + y.n - 1) < fr ∨ (b : Int) + x.n - 1 ≠ begZ l fr f ((b : Int) + x.n + y.n - 1) - 1 then fr - 1 else begZ l fr f ((b : Int) + x.n - 1)) = _
   rw [if_neg (by omega),if_neg (by omega),if_neg (by simp [Ex.n]; omega),i2,if_neg (by omega),i1]
theorem _root_.Go.Tw.At.glue {l : List NodeC} {b : Nat} {u v : List NodeC} (h1 : ∀ j c,u[j]? = some c → l[b + j]? = some c) (h2 : ∀ j c,v[j]? = some c → l[b + u.length + j]? = some c) : ∀ j c,(u ++ v)[j]? = some c → l[b + j]? = some c := by
 intro j c hj
 by_cases h : j < u.length
 · rw [List.getElem?_append_left h] at hj; exact h1 j c hj
 · rw [List.getElem?_append_right (by omega)] at hj
   have := h2 _ c hj
   rw [show b + u.length + (j - u.length) = b + j by omega] at this
   exact this
theorem qz5 {l : List NodeC} {fr : Int} (hfr : 0 ≤ fr) (hok : ∀ c ∈ l,(vj c).isSome = true) : ∀ (f : Nat) (i : Int),i < l.length → fr ≤ begZ l fr f i → ∃ (b : Nat) (x : Ex),begZ l fr f i = b ∧ x.ok ∧ At l b x ∧ (b : Int) + x.n - 1 = i := by
 intro f
 induction f with
 | zero => intro i _ h; simp only [begZ] at h; omega
 | succ f ih =>
   intro i hi h
   unfold begZ at h ⊢
   split at h
   · omega
   · rename_i hif
     rw [if_neg hif]
     cases hn : l[i.toNat]? with
     | none => rw [hn] at h; simp only at h; omega
     | some n =>
       rw [hn] at h
       dsimp only at h ⊢
       have hp := hok n (List.mem_of_getElem? hn)
       obtain ⟨k,hk⟩ := Option.isSome_iff_exists.1 hp
       have one : ∀ {b : Nat} {u : List NodeC},b + u.length = i.toNat → ∀ j c,[n][j]? = some c → l[b + u.length + j]? = some c := by
         intro b u e j c hj
         have : j = 0 := by
           have := List.getElem?_eq_some_iff.1 hj
           obtain ⟨h1,_⟩ := this
           simp at h1; exact h1
         subst this
         rw [e]
         simp at hj
         subst hj
         exact hn
       have kk := qk1 hk
       have kind : (k = 0 → n.kind = 0 ∨ n.kind = 1) ∧ (k = 1 → n.kind = 6 ∨ n.kind = 7) ∧ (k = 2 → 2 ≤ n.kind ∧ n.kind ≤ 5) := by
         refine ⟨?_,?_,?_⟩
         · rintro rfl
           unfold vj at hk
           by_cases h0 : n.kind = 0
           · exact .inl h0
           · by_cases h1 : n.kind = 1
             · exact .inr h1
             · rw [if_neg h0, if_neg h1] at hk
               repeat' split at hk
               all_goals cases hk
         · rintro rfl
           rcases qkz hk with e | ⟨e,_⟩
           · left; rw [e]; rfl
           · right; rw [e]; rfl
         · rintro rfl
           exact (qk0 hk).2
       rcases (by omega : k = 0 ∨ k = 1 ∨ k = 2) with rfl | rfl | rfl
       · have h01 := kind.1 rfl
         rw [if_pos h01] at h ⊢
         obtain ⟨x,q1,q2,q3,q4,q5⟩ := qqe hk
         refine ⟨i.toNat,x,by omega,q1,?_,by rw [q2]; omega⟩
         intro j c hj
         rw [q4] at hj
         exact one (b := i.toNat) (u := []) rfl j c hj
       · have h67 := kind.2.1 rfl
         rw [if_neg (by omega),if_pos h67] at h ⊢
         split at h
         · omega
         · rename_i ha
           rw [if_neg ha]
           have ha : n.a = i - 1 := by omega
           obtain ⟨b,x,e1,q1,q2,q3⟩ := ih n.a (by omega) h
           have key : ∀ y : Ex, y.ok → y.n = x.n + 1 → y.nd b = x.nd b ++ [n] → ∃ (b : Nat) (x : Ex), begZ l fr f n.a = b ∧ x.ok ∧ At l b x ∧ (b : Int) + x.n - 1 = i := fun y hy hn' hd => ⟨b, y, e1, hy, by
             unfold At
             rw [hd]
             exact At.glue q2 (by rw [x.nd_len]; have := one (b := b) (u := x.nd b) (by rw [x.nd_len]; omega); rw [x.nd_len] at this; exact this),by omega⟩
           rcases qkz hk with e | ⟨e,he⟩
           · exact key (.neg x) q1 rfl (by rw [e,← q3]; rfl)
           · refine key (.pow x n.e) ⟨q1, he⟩ rfl ?_
             conv => rhs; rw [e,← q3]
             rfl
       · have h25 := kind.2.2 rfl
         rw [if_neg (by omega),if_neg (by omega)] at h ⊢
         split at h
         · omega
         · rename_i hb'
           rw [if_neg hb']
           have hb' : n.b = i - 1 := by omega
           split at h
           · omega
           · rename_i hc
             rw [if_neg hc]
             obtain ⟨b2,y,e2,p1,p2,p3⟩ := ih n.b (by omega) (by omega)
             rw [e2] at hc
             obtain ⟨b,x,e1,q1,q2,q3⟩ := ih n.a (by omega) h
             have hb2 : b2 = b + x.n := by omega
             subst hb2
             obtain ⟨ec,_⟩ := qk0 hk
             have hd : (Ex.bin n.kind x y).nd b = x.nd b ++ y.nd (b + x.n) ++ [n] := by
               conv => rhs; rw [ec,← q3,← p3]
               simp only [Ex.nd]
               congr 3
             refine ⟨b,.bin n.kind x y,e1,⟨h25.1,h25.2,q1,p1⟩,?_,by simp only [Ex.n]; omega⟩
             unfold At
             rw [hd]
             refine At.glue (At.glue q2 (by rw [x.nd_len]; exact p2)) ?_
             have := one (b := b) (u := x.nd b ++ y.nd (b + x.n)) (by rw [List.length_append,x.nd_len,y.nd_len]; omega)
             exact this
end Go.Proofs.YtfcmhcaggdakbaaGreatDoor
namespace Go.Tw
open Go Go.RowKit
section
variable {P : Program} {Q : Exit → Act → World → Prop} {n : Nat} {D : List Deferred} {E : Env} {S S' : World → Prop} {ops : Array Oper} {rest : List Oper} {d : Nat} {op : Op} {ty : TypeId} {pos : String} {aft : Array Edge} {g : Option (Nat × Bool)} {v : Value} {w0 : World} {X : List Nat} {I I0 : Hp} {B B0 R : List Item}
theorem qqk {qm : Bool} {t : TypeId} {x ix : Operand} {u iv r : Value} (hg : qi ops E g) (hd : Nat.blt d n = true) (hx : ev E x = some u) (hi : ev E ix = some iv) (hr : ∀ w, (Instr.index t u iv).run P w = .ok r w)
   (k : TL qm P ops Q rest n D ((d,r) :: E) S) : TL qm P ops Q (⟨some d,.index t x ix,ty,pos,aft,g⟩ :: rest) n D E S :=
 o_rd hg hd (v := r) (fun a w ha hw d pos aft g => ⟨w,by simp only [execOp,ha.ev hx,ha.ev hi,Sem.run_bind,hr,Result.andThen_ok]; rfl,rfl⟩) k
end
end Go.Tw
namespace Go.Proofs.YtfcmhcaggdakbaaGreatDoor
open Go Go.Tw
def wgts : List OpC → List Nat → Option (List Nat)
 | [],l => some l
 | o :: r,l => if vw o then (match wgt o l with | some m => wgts r (l ++ [m]) | none => none) else none
def v7 (t : jw) : Option (List Nat) :=
 if t.ins < 1 ∨ 40 < t.ins ∨ t.outs.length < 1 ∨ 40 < t.outs.length ∨ 400 < t.ops.length then none
 else match wgts t.ops (List.replicate t.ins.toNat 1) with
   | none => none
   | some l => if (t.outs.all fun z => decide (0 ≤ z ∧ z < l.length)) then some l else none
theorem qql {o : OpC} {l : List Nat} {m : Nat} (h : wgt o l = some m) : m ≤ 200 := by
 unfold wgt at h
 split at h
 · cases h; decide
 · split at h
   · cases h
   · split at h
     · cases h; assumption
     · cases h
theorem OpV.at_ {I : Hp} {vo vu : Value} {t : jw} {os : List OpV} (ht : jp I vo vu t os) {i : Nat} {o : OpV} (h : os[i]? = some o) : ∀ k y, ([.int .i64 o.c.code, .int .i64 o.c.a, .int .i64 o.c.b, .int .i64 o.c.e, .bool o.c.neg, o.vn, o.vd] : List Value)[k]? = some y → I.cell? ⟨slcB vo, slcO vo + i * 7 + k, none⟩ = some y :=
 ht.so.cells i _ (by rw [List.getElem?_map,h]; rfl)
theorem qqm {ops : List OpC} {i : Nat} {o : OpC} (h : ops[i]? = some o) (l : List Nat) : wgts (ops.drop i) l = if vw o then (match wgt o l with | some m => wgts (ops.drop (i + 1)) (l ++ [m]) | none => none) else none := by
 rw [List.drop_eq_getElem_cons (List.getElem?_eq_some_iff.1 h).1,(List.getElem?_eq_some_iff.1 h).2]; rfl
theorem qh4 (l : List Nat) (m : Nat) : nvs l ++ [.int .i64 (m : Int)] = nvs (l ++ [m]) := by simp [nvs]
theorem qk5 (l : List Nat) : ((l.map fun (x : Nat) => [Value.int .i64 (x : Int)])).flatten = nvs l := by
 induction l with
 | nil => rfl
 | cons x l ih => show [_] ++ _ = _; rw [ih]; rfl
theorem qqn (k : Nat) : nvs (List.replicate k 1) ++ [.int .i64 1] = nvs (List.replicate (k + 1) 1) := by
 rw [List.replicate_succ',← qh4]; rfl
theorem qf6 {I : Hp} {v : Value} {l : List Int} (h : Slc I 1 v (ics l)) {i : Nat} {z : Int} (hz : l[i]? = some z) : I.cell? ⟨slcB v, slcO v + i * 1, none⟩ = some (.int .i64 z) :=
 h.cells i _ (by unfold ics; rw [List.getElem?_map,hz]; rfl) 0 _ rfl
theorem qb3 (l : List Int) : (ics l).length = l.length := by simp [ics]
theorem qz6 {o : OpC} (h : vw o = true) (h7 : o.code = 7) : -20 ≤ o.e ∧ o.e ≤ 20 := by
 unfold vw at h
 rw [if_neg (by omega),if_neg (by omega),if_neg (by omega),if_pos h7] at h
 simp only [Bool.and_eq_true,decide_eq_true_eq] at h
 exact h.2.2
theorem qqo (t : jw) (vo vu : Value) (os : List OpV) {I : Hp} (ht : jp I vo vu t os) (hf : ∀ o ∈ t.ops,OpC.few 2000000 o) : Fun prog 68 [.agg #[.int .i64 t.ins,vo,vu]] I [] (fun v I' _ => ∃ u,v = .tuple #[u,.bool (v7 t).isSome] ∧ ∀ l,v7 t = some l → Slc I' 1 u (l.map fun (x : Nat) => [.int .i64 (x : Int)])) := by
 have hol : os.length = t.ops.length := by rw [← ht.eq,List.length_map]
 have hoc : ∀ {i : Nat} {o : OpV},os[i]? = some o → t.ops[i]? = some o.c := fun {i o} h => by rw [← ht.eq,List.getElem?_map,h]; rfl
 have hso := ht.so
 have hsu := ht.su
 intro w hw
 refine qn _ func68 rfl ntmps68 rfl ?_ hw;refine sR ?_;refine vh trivial rfl rfl rfl (fun b1 => ?_);iterate 2 refine oV ?_
 refine nU ?_;refine oF 0 underlying56 sizeOf3 ?_
 have hul := qb3 t.outs
 have hml : (os.map OpV.cells).length = t.ops.length := by rw [List.length_map,hol]
 refine oL isAgg3 ?_;refine oV ?_;refine' oZ (fun hb14 => ?_) ?_;rotate_left
 ·
  have fb14 := hb14
  try simp only [bl] at fb14
  refine gF hb14 0 underlying56 sizeOf3 ?_;refine gL hb14 isAgg3 ?_;refine gV hb14 ?_;refine oN ?_;exact qa rfl
 refine' oZ (fun hb19 => ?_) ?_;rotate_left
 ·
  have fb19 := hb19
  try simp only [bl] at fb19
  refine gF hb19 2 underlying56 sizeOf52 ?_;refine gL hb19 isAgg52 ?_;refine qu (wS rfl rfl hb19) rfl underlying52 rfl (hsu) ?_;refine gV hb19 ?_;refine oN ?_;exact qa rfl
 refine' oZ (fun hb25 => ?_) ?_;rotate_left
 ·
  have fb25 := hb25
  try simp only [bl] at fb25
  refine gF hb25 2 underlying56 sizeOf52 ?_;refine gL hb25 isAgg52 ?_;refine qu (wS rfl rfl hb25) rfl underlying52 rfl (hsu) ?_;refine gV hb25 ?_;refine oN ?_;exact qa rfl
 refine' oZ (fun hb31 => ?_) ?_;rotate_left
 ·
  have fb31 := hb31
  try simp only [bl] at fb31
  refine gF hb31 1 underlying56 sizeOf54 ?_;refine gL hb31 isAgg54 ?_;refine qu (wS rfl rfl hb31) rfl underlying54 rfl (hso) ?_;refine gV hb31 ?_;refine oN ?_;exact qa rfl
 refine nT ?_;refine cC rfl (fun h1 => ?_) (fun h1 => ?_)
 ·
  have f1 := h1;try simp only [bl] at f1
  have hno : v7 t = none := by unfold v7; rw [if_pos (by omega)]
  refine sR ?_;iterate 2 refine oV ?_
  refine nF ?_;refine ret2 rfl rfl rfl ?_;refine qe ⟨.slice none 0 0,by rw [hno]; rfl,fun l hl => by rw [hno] at hl; cases hl⟩
 have f1 := h1;try simp only [bl] at f1
 have hgd : ¬ (t.ins < 1 ∨ 40 < t.ins ∨ t.outs.length < 1 ∨ 40 < t.outs.length ∨ 400 < t.ops.length) := by omega
 refine kS ?_;refine oV ?_;refine nU ?_;refine oF 0 underlying56 sizeOf3 ?_;refine oL isAgg3 ?_;refine oV ?_;refine oN (tC (cB ?_));refine qt (ι := Nat × Value) [1,38] (.cons rfl (.cons rfl .nil)) (fun x => t.ins.toNat - x.1) (fun x E0 => (4,x.2) :: (39,.int .i64 (x.1 : Int)) :: E0) (fun x => St w [] I [.row x.2 3 1 x.1 (nvs (List.replicate x.1 1)),.box b1 (.cells ([.int .i64 t.ins,vo,vu] : List Value).toArray 56 (0,0))]) (fun x => x.1 ≤ t.ins.toNat) ((0,.slice none 0 0)) (sC rfl (sC rfl (sC rfl (sC rfl sN)))) (fun _ h => h.nilRow _ _) (Nat.zero_le _) ?_;rintro ⟨i,u⟩ hi
 try dsimp only
 simp only at hi
 refine sR ?_;refine oV ?_;refine oN (tC (cS ?_));refine cC rfl (fun h2 => ?_) (fun h2 => ?_)
 ·
  have f2 := h2;try simp only [bl] at f2
  refine cK (tC (cS (cB (cR ?_))));refine oV ?_;refine oB underlying52 sizeOf3 zeroValue3 fun b42 => ?_;refine oD underlying52 zd fun v43 => ?_;refine oV ?_;refine oN (qg (tC (cR ?_)))
  (refine qh trivial rfl rfl rfl ?_ ?_; (omega))
  refine oV ?_;refine oN ?_;exact ql (i + 1,v43) (sC rfl (sC rfl (sC rfl (sC rfl sN)))) (fun _ h => by rw [← qqn]; exact h.sort (by repeat constructor)) (by show t.ins.toNat - (i + 1) < t.ins.toNat - i; omega) (by show i + 1 ≤ _; omega)
 have f2 := h2;try simp only [bl] at f2
 refine qp (qc (qc (qo rfl (tC (cS (cS ?_))))))
 have hin : i = t.ins.toNat := by omega
 subst hin
 refine cR ?_;refine oF 1 underlying56 sizeOf54 ?_;refine oL isAgg54 ?_;refine qu trivial rfl underlying54 rfl (hso) ?_;refine oV ?_;refine oN (tC (cB ?_));refine qt (ι := Nat × List Nat × Value) [1,46,47] (.cons rfl (.cons rfl (.cons rfl .nil))) (fun x => t.ops.length - x.1) (fun x E0 => (4,x.2.2) :: (48,.int .i64 (x.1 : Int)) :: E0) (fun x => St w [] I [.row x.2.2 3 1 x.2.1.length (nvs x.2.1),.box b1 (.cells ([.int .i64 t.ins,vo,vu] : List Value).toArray 56 (0,0))]) (fun x => x.1 ≤ t.ops.length ∧ x.2.1.length = t.ins.toNat + x.1 ∧ (∀ y ∈ x.2.1,y ≤ 200) ∧ wgts t.ops (List.replicate t.ins.toNat 1) = wgts (t.ops.drop x.1) x.2.1) ((0,List.replicate t.ins.toNat 1,u)) (sC rfl (sC rfl (sC rfl (sC rfl (sC rfl sN))))) (fun _ h => by rw [List.length_replicate]; exact h) (⟨Nat.zero_le _,by rw [List.length_replicate]; rfl,fun y hy => by rw [(List.mem_replicate.1 hy).2]; decide,rfl⟩) ?_;rintro ⟨i,l,u⟩ ⟨hi,hll,hl2,hW⟩
 try dsimp only
 simp only at hi hll hl2 hW
 refine sR ?_;refine oV ?_;refine oN (tC (cS ?_));refine cC rfl (fun h3 => ?_) (fun h3 => ?_)
 ·
  have f3 := h3;try simp only [bl] at f3
  have hio : i < os.length := by omega
  obtain ⟨o,ho⟩ : ∃ o,os[i]? = some o := ⟨os[i],List.getElem?_eq_getElem hio⟩
  obtain ⟨hvn,hvd⟩ := ht.ok o (List.mem_of_getElem? ho)
  have hto := hoc ho
  have hfo := hf o.c (List.mem_of_getElem? hto)
  rw [qqm hto] at hW
  refine cK (tC (cS (cB (sR ?_))));refine vk trivial rfl underlying54 sizeOf69 rfl (hso) rfl (by omega) ?_;refine jz trivial rfl isAgg69 sizeOf69 rfl rfl (OpV.at_ ht ho) ?_;refine qq trivial rfl zeroValue69 rfl (fun b6 => ?_);refine oS sizeOf69 ?_;refine nU ?_;refine oA isAgg69 sizeOf69 ?_;refine oQ call110 rfl (qzv o.c.code o.c.a o.c.b o.c.e o.c.neg o.vn o.vd o.c.n o.c.d hvn hvd hfo.1 hfo.2) ?_;refine oV ?_;refine nT ?_;refine cC rfl (fun h4 => ?_) (fun h4 => ?_)
  ·
   have f4 := h4;try simp only [bl] at f4
   have f4' : vw o.c = false := f4
   have hno : v7 t = none := by unfold v7; rw [if_neg hgd,hW,f4']; rfl
   refine sR ?_;iterate 2 refine oV ?_
   refine oN (tC (cT (tR (qb (tR (tR (qb (tR ?_))))))));refine ret2 rfl rfl rfl ?_;refine leaf (Ext.refl _ _) (List.nil_sublist _) ⟨.slice none 0 0,by rw [hno]; rfl,fun l hl => by rw [hno] at hl; cases hl⟩
  have f4 := h4;try simp only [bl] at f4
  have f4' : vw o.c = true := f4
  rw [if_pos f4'] at hW
  refine kS ?_;refine oA isAgg69 sizeOf69 ?_;refine oV ?_;refine oC trivial rfl call111 rfl (qzx o.c.code o.c.a o.c.b o.c.e o.c.neg o.vn o.vd u o.c.n o.c.d l hvn hvd (qz6 f4') (by omega) hl2) (by repeat constructor) ?_;rintro _ _ _ hx2 ⟨rfl,rfl,m,rfl,hm⟩;iterate 5 refine oV ?_
  refine nU ?_;iterate 2 refine oV ?_
  refine nT ?_;refine cC rfl (fun h5 => ?_) (fun h5 => ?_)
  ·
   have f5 := h5;try simp only [bl] at f5
   have hw5 : wgt o.c l = none := Option.not_isSome_iff_eq_none.1 (by rw [show (wgt o.c l).isSome = false from f5]; decide)
   have hno : v7 t = none := by unfold v7; rw [if_neg hgd,hW,hw5]
   refine sR ?_;iterate 2 refine oV ?_
   refine oN (tC (cT (tR (qb (tR (tR (qb (tR ?_))))))));refine ret2 rfl rfl rfl ?_;refine leaf (Ext.refl _ _) (List.nil_sublist _) ⟨.slice none 0 0,by rw [hno]; rfl,fun l hl => by rw [hno] at hl; cases hl⟩
  have f5 := h5;try simp only [bl] at f5
  obtain ⟨k,hk⟩ := Option.isSome_iff_exists.1 (show (wgt o.c l).isSome = true from f5)
  rw [hk] at hW
  have hmk := hm k hk
  subst hmk
  refine cK (tC (cR ?_));iterate 2 refine oV ?_
  refine oB underlying52 sizeOf3 zeroValue3 fun b65 => ?_;refine oD underlying52 zd fun v66 => ?_;refine oV ?_;refine oN (qg (tC (cR ?_)))
  (refine qh trivial rfl rfl rfl ?_ ?_; (omega))
  refine oV ?_;refine oN ?_
  exact ql (i + 1, l ++ [k], v66) (sC rfl (sC rfl (sC rfl (sC rfl (sC rfl sN))))) (fun _ h => by rw [← qh4, List.length_append]; exact h.sort (by repeat constructor)) (by show t.ops.length - (i + 1) < t.ops.length - i; omega) ⟨by show i + 1 ≤ _; omega, by simp only [List.length_append, List.length_cons, List.length_nil]; omega, by
    intro y hy
    rcases List.mem_append.1 hy with hy | hy
    · exact hl2 y hy
    · rw [List.mem_singleton.1 hy]; exact qql hk,hW⟩
 have f3 := h3;try simp only [bl] at f3
 refine qp (qc (qc (qo rfl (tC (cS (cS ?_))))))
 have hio : i = t.ops.length := by omega
 subst hio
 rw [List.drop_length] at hW
 refine cR ?_;refine oF 2 underlying56 sizeOf52 ?_;refine oL isAgg52 ?_;refine qu trivial rfl underlying52 rfl (hsu) ?_;refine oV ?_;refine oN (tC (cB ?_));refine qt (ι := Nat) [4,69,70] (.cons rfl (.cons rfl (.cons rfl .nil))) (fun x => t.outs.length - x) (fun x E0 => (71,.int .i64 (x : Int)) :: E0) (fun x => St w [] I [.row u 3 1 l.length (nvs l),.box b1 (.cells ([.int .i64 t.ins,vo,vu] : List Value).toArray 56 (0,0))]) (fun x => x ≤ t.outs.length ∧ ((t.outs.take x).all fun z => decide (0 ≤ z ∧ z < l.length)) = true) (0) (sC rfl (sC rfl (sC rfl (sC rfl sN)))) (fun _ h => h) (⟨Nat.zero_le _,rfl⟩) ?_;rintro i ⟨hi,hall⟩
 try dsimp only
 refine sR ?_;refine oV ?_;refine oN (tC (cS ?_));refine cC rfl (fun h6 => ?_) (fun h6 => ?_)
 ·
  have f6 := h6;try simp only [bl] at f6
  have hio : i < t.outs.length := by omega
  obtain ⟨z,hz⟩ : ∃ z,t.outs[i]? = some z := ⟨t.outs[i],List.getElem?_eq_getElem hio⟩
  refine cK (tC (cS (cB (sR ?_))));refine vk trivial rfl underlying52 sizeOf3 rfl (hsu) rfl (by omega) ?_;refine q7 trivial rfl isAgg3 rfl (qf6 hsu hz) ?_;refine oV ?_;refine nS ?_;iterate 2 refine oV ?_
  refine' oZ (fun hb77 => ?_) ?_;rotate_left
  ·
   have fb77 := hb77
   try simp only [bl] at fb77
   iterate 2 refine gV hb77 ?_
   refine yw (wS rfl rfl hb77) rfl underlying52 rfl (by repeat constructor) ?_;refine gV hb77 ?_;refine oN ?_;exact qa rfl
  refine nT ?_;refine cC rfl (fun h7 => ?_) (fun h7 => ?_)
  ·
   have f7 := h7;try simp only [bl] at f7
   have hno : v7 t = none := by
     unfold v7; rw [if_neg hgd,hW]
     have hz9 : (t.outs.all fun z => decide (0 ≤ z ∧ z < l.length)) = false := by
       rw [List.all_eq_false]
       exact ⟨z,List.mem_of_getElem? hz,by simp; omega⟩
     show (if (t.outs.all fun z => decide (0 ≤ z ∧ z < l.length)) = true then some l else none) = none
     rw [hz9]; rfl
   refine sR ?_;iterate 2 refine oV ?_
   refine oN (tC (cT (qb (tR (tR (qb (tR ?_)))))));refine ret2 rfl rfl rfl ?_;refine leaf (Ext.refl _ _) (List.nil_sublist _) ⟨.slice none 0 0,by rw [hno]; rfl,fun l hl => by rw [hno] at hl; cases hl⟩
  have f7 := h7;try simp only [bl] at f7
  refine cK (qg (tC (cR ?_)))
  (refine qh trivial rfl rfl rfl ?_ ?_; (omega))
  refine oV ?_;refine oN ?_
  exact ql (i + 1) (sC rfl (sC rfl (sC rfl (sC rfl sN)))) (fun _ h => h) (by show t.outs.length - (i + 1) < t.outs.length - i; omega) ⟨by show i + 1 ≤ _; omega, by
    show ((t.outs.take (i + 1)).all _) = true
    rw [List.take_add_one,hz,List.all_append,hall]
    simp; omega⟩
 have f6 := h6;try simp only [bl] at f6
 refine qp (qc (qc (qo rfl (tC (cS ?_)))))
 have hio : i = t.outs.length := by omega
 subst hio
 rw [List.take_length] at hall
 have hyes : v7 t = some l := by unfold v7; rw [if_neg hgd,hW]; show (if (t.outs.all fun z => decide (0 ≤ z ∧ z < l.length)) = true then some l else none) = some l; rw [hall]; rfl
 refine cR ?_;iterate 3 refine oV ?_
 refine nE ?_;refine ret2 rfl rfl rfl ?_;exact fun w' hw' => qgz (e := 3) (size := 1) (nn := l.length) (u := u) (xss := l.map fun (x : Nat) => [Value.int .i64 (x : Int)]) (by simp) (by intro c hc; obtain ⟨x,_,rfl⟩ := List.mem_map.1 hc; rfl) (by unfold maxLen; omega) (fun I' hl hs' => ⟨u,by rw [hyes]; rfl,fun l' hl' => by rw [hyes] at hl'; cases hl'; exact hs'⟩) w' (by rw [qk5]; exact hw')
theorem qk6 (t : jw) (vo vu : Value) (os : List OpV) {I : Hp} (ht : jp I vo vu t os) (hf : ∀ o ∈ t.ops,OpC.few 2000000 o) : Fun prog 34 [.agg #[.int .i64 t.ins,vo,vu]] I [] (fun v _ _ => v = .bool (v7 t).isSome) := by
 have h1 := ht.so
 have h2 := ht.su
 intro w hw
 refine qn _ func34 rfl ntmps34 rfl ?_ hw;refine sR ?_;refine vh trivial rfl rfl rfl (fun b1 => ?_);refine oV ?_;refine nS ?_;refine oA isAgg56 sizeOf56 ?_;refine oI call68 rfl (qqo t vo vu os ht hf) ?_;rintro _ I1 hx1 ⟨u,rfl,hs⟩;iterate 5 refine oV ?_
 refine nS ?_;iterate 2 refine oV ?_
 refine nE ?_;refine ret1 rfl rfl ?_;exact leaf hx1 (List.nil_sublist _) rfl
theorem qk7 (s : ByteArray) {I : Hp} : Fun prog 18 [.string s] I [] (fun v _ _ => v = .bool (vt s)) := by
 intro w hw
 refine qn _ func18 rfl ntmps18 rfl ?_ hw;refine sR ?_;refine oV ?_;refine nU ?_;iterate 2 refine oV ?_
 refine' oZ (fun hb8 => ?_) ?_;rotate_left
 ·
  have fb8 := hb8
  try simp only [bl] at fb8
  refine gV hb8 ?_;refine yj (wS rfl rfl hb8) rfl underlying9 rfl ?_;refine gV hb8 ?_;refine oN ?_;exact qa rfl
 refine' oZ (fun hb13 => ?_) ?_;rotate_left
 ·
  have fb13 := hb13
  try simp only [bl] at fb13
  refine gV hb13 ?_;refine oP (wS rfl rfl hb13) rfl call42 rfl (qoh _) ?_;refine oN ?_;exact qa rfl
 refine nT ?_;refine cC rfl (fun h1 => ?_) (fun h1 => ?_)
 ·
  have f1 := h1;try simp only [bl] at f1
  simp only [qcj] at f1
  refine sR ?_;refine oV ?_;refine nF ?_;refine ret1 rfl rfl ?_;refine qe ?_; rw [qjq (by rcases f1 with (f | f) | f; exact .inl (by omega); exact .inr (.inl (by omega)); exact .inr (.inr f))]
 have f1 := h1;try simp only [bl] at f1
 simp only [qcj] at f1
 refine cK (tC (cS (sR ?_)));refine oV ?_;refine qfi trivial rfl underlying9 rfl (fun b18 => ?_);refine oN (tC (cB ?_));refine qt (ι := Nat) [18] (.cons rfl .nil) (fun x => s.size - x) (fun x E0 => E0) (fun x => St w [] I [.box b18 (.stringIter s x)]) (fun x => x ≤ s.size ∧ vt s = jt s (s.size - x) x) (0) (sC rfl sN) (fun _ h => h) (⟨Nat.zero_le _,qjp (by omega) (by omega) f1.2⟩) ?_;rintro i ⟨hle,hF⟩
 try dsimp only
 have hwd := yx s i
 refine cS ?_
 rcases Nat.lt_or_ge i s.size with hp | hp
 ·
  refine cR ?_;refine qfj trivial rfl rfl (by repeat constructor) hp ?_;refine oV ?_;refine oN (tC (cS ?_));refine zp rfl rfl ?_;refine cK (tC (cB (sR ?_)));iterate 4 refine oV ?_
  refine nS ?_;refine oV ?_;refine oP trivial rfl call43 rfl (qhc _) ?_;refine oV ?_;refine nS ?_;iterate 2 refine oV ?_
  refine' oY (fun hb27 => ?_) ?_;rotate_left
  ·
   iterate 2 refine gV hb27 ?_
   refine' o_or (wS rfl rfl hb27) (wS rfl rfl hb27) rfl rfl rfl rfl rfl rfl rfl rfl (fun hb30 => ?_) ?_;rotate_left
   ·
    iterate 2 refine gV hb30 ?_
    refine oN ?_;exact qa rfl
   refine oN ?_;exact qa rfl
  refine nT ?_;refine cC rfl (fun h3 => ?_) (fun h3 => ?_)
  ·
   have f3 := h3;try simp only [bl] at f3
   refine sR ?_;refine oV ?_;refine oN (tC (cT (qb (tR (qb (tR ?_))))));refine ret1 rfl rfl ?_;refine qe ?_; rw [hF,qjm hp (by omega)]
  have f3 := h3;try simp only [bl] at f3
  refine cK (qg ?_)
  have hwi := zx s i hp; exact ql _ (sC rfl sN) (fun _ h => h) (by show s.size - (i + (Utf8.decode s i).2) < s.size - i; omega) ⟨by omega,hF.trans (qjn hp (by omega))⟩
 refine cR ?_;refine qfk trivial rfl rfl (by repeat constructor) hp ?_;refine oV ?_;refine oN (tC (cS ?_));refine qaf rfl rfl ?_;refine qp (qc (qc (qo rfl (tC (sR ?_)))));refine oV ?_;refine nE ?_;refine ret1 rfl rfl ?_;refine qe ?_; rw [hF,qjo (by omega)]
theorem qk8 (s : ByteArray) : yp prog 46 [.string s] (.bool (vt s)) := by
 intro w
 refine qn _ func46 rfl ntmps46 rfl ?_ (S := fun w1 => w1 = w) rfl;refine sR ?_;refine oV ?_;refine nU ?_;refine oV ?_;refine yj trivial rfl underlying9 rfl ?_;refine oV ?_;refine' oZ (fun hb10 => ?_) ?_;rotate_left
 ·
  have fb10 := hb10
  try simp only [bl] at fb10
  refine gV hb10 ?_;refine yj (wS rfl rfl hb10) rfl underlying9 rfl ?_;refine gV hb10 ?_;refine oN ?_;exact qa rfl
 refine' oZ (fun hb15 => ?_) ?_;rotate_left
 ·
  have fb15 := hb15
  try simp only [bl] at fb15
  refine gV hb15 ?_;refine oP (wS rfl rfl hb15) rfl call79 rfl (qwt _) ?_;refine oN ?_;exact qa rfl
 refine nT ?_;refine cC rfl (fun h1 => ?_) (fun h1 => ?_)
 ·
  have f1 := h1;try simp only [bl] at f1
  refine sR ?_;refine oV ?_;refine nF ?_;refine ret1 rfl rfl ?_;refine fun _ hw => ⟨?_,hw⟩; rw [qjq (by rcases f1 with (f | f) | f; exact .inl (by omega); exact .inr (.inl (by omega)); exact .inr (.inr f))]
 have f1 := h1;try simp only [bl] at f1
 refine kS ?_;refine oV ?_;refine oN (tC (cS (cB ?_)));refine qt (ι := Nat) [0] (.cons rfl .nil) (fun x => s.size - x) (fun x E0 => (3,.int .i64 (x : Int)) :: E0) (fun x => fun w1 => w1 = w) (fun x => x ≤ s.size ∧ vt s = jt s (s.size - x) x) (0) (sC rfl (sC rfl sN)) (fun _ h => h) (⟨Nat.zero_le _,qjp (by omega) (by omega) f1.2⟩) ?_;rintro i ⟨hle,hF⟩
 try dsimp only
 have hwd := yx s i
 refine cS (sR ?_);iterate 2 refine oV ?_
 refine yj trivial rfl underlying9 rfl ?_;refine oV ?_;refine nT ?_;refine cC rfl (fun h2 => ?_) (fun h2 => ?_)
 ·
  have f2 := h2;try simp only [bl] at f2
  refine cK (tC (cB (sR ?_)));iterate 2 refine oV ?_
  refine oP trivial rfl call80 rfl (qwx _ _ (by omega) (by omega)) ?_;iterate 5 refine oV ?_
  refine nS ?_;refine oV ?_;refine oP trivial rfl call81 rfl (qwk _) ?_;refine oV ?_;refine nU ?_;iterate 2 refine oV ?_
  refine' oY (fun hb33 => ?_) ?_;rotate_left
  ·
   iterate 2 refine gV hb33 ?_
   refine oN ?_;exact qa rfl
  refine' oZ (fun hb37 => ?_) ?_;rotate_left
  ·
   iterate 2 refine gV hb37 ?_
   refine' qbc (wS rfl rfl hb37) (wS rfl rfl hb37) rfl rfl rfl rfl rfl rfl rfl rfl (fun hb40 => ?_) ?_;rotate_left
   ·
    iterate 2 refine gV hb40 ?_
    refine oN ?_;exact qa rfl
   refine oN ?_;exact qa rfl
  refine nT ?_;refine cC rfl (fun h3 => ?_) (fun h3 => ?_)
  ·
   have f3 := h3;try simp only [bl] at f3
   refine sR ?_;refine oV ?_;refine oN (tC (cT (tR (qb (tR (qb (tR ?_)))))));refine ret1 rfl rfl ?_;refine fun _ hw => ⟨?_,hw⟩; rw [hF,qjm (by omega) (by omega)]
  have f3 := h3;try simp only [bl] at f3
  refine cK (tC (cR ?_));iterate 2 refine oV ?_
  (refine qh trivial rfl rfl rfl ?_ ?_; (omega))
  refine oV ?_;refine oN (qg ?_)
  have hwi := zx s i (by omega); exact ql _ (sC rfl (sC rfl sN)) (fun _ h => h) (by show s.size - (i + (Utf8.decode s i).2) < s.size - i; omega) ⟨by omega,hF.trans (qjn (by omega) (by omega))⟩
 have f2 := h2;try simp only [bl] at f2
 refine qp (qc (qc (qo rfl (tC (sR ?_)))));refine oV ?_;refine nE ?_;refine ret1 rfl rfl ?_;refine fun _ hw => ⟨?_,hw⟩; rw [hF,qjo (by omega)]
theorem qau {I : Hp} {v : Value} {l : List ByteArray} (h : Slc I 1 v (scs l)) {i : Nat} {s : ByteArray} (hs : l[i]? = some s) : I.cell? ⟨slcB v, slcO v + i * 1, none⟩ = some (.string s) :=
 h.cells i _ (by unfold scs; rw [List.getElem?_map,hs]; rfl) 0 _ rfl
theorem jq (l : List ByteArray) : (scs l).length = l.length := by simp [scs]
theorem qey {α : Type} {p : α → Bool} {l : List α} {i : Nat} {x : α} (h : l[i]? = some x) : (l.drop i).all p = (p x && (l.drop (i + 1)).all p) := by
 rw [List.drop_eq_getElem_cons (List.getElem?_eq_some_iff.1 h).1,List.all_cons,(List.getElem?_eq_some_iff.1 h).2]
theorem qqp (v : Value) (l : List ByteArray) (m : Int) {I : Hp} (h : Slc I 1 v (scs l)) : Fun prog 95 [v,.int .i64 m] I [] (fun r _ _ => r = .bool (jx l && decide (m ≤ l.length) && decide (l.length ≤ 40))) := by
 have hl := jq l
 have hmx := h.most
 rw [hl] at hmx
 unfold maxLen at hmx
 intro w hw
 refine qz _ func95 rfl ntmps95 rfl ?_ hw;refine sR ?_;refine oV ?_;refine nU ?_;refine oV ?_;refine qu trivial rfl underlying22 rfl (h) ?_;refine oV ?_;refine oN (tC (cB ?_));refine qt (ι := Nat) [0,1,7,8] (.cons rfl (.cons rfl (.cons rfl (.cons rfl .nil)))) (fun x => l.length - x) (fun x E0 => (9,.int .i64 (x : Int)) :: E0) (fun x => St w [] I []) (fun x => x ≤ l.length ∧ l.all vt = (l.drop x).all vt) (0) (sC rfl (sC rfl (sC rfl (sC rfl (sC rfl sN))))) (fun _ h => h) (⟨Nat.zero_le _,rfl⟩) ?_;rintro i ⟨hi,hF⟩
 try dsimp only
 refine sR ?_;refine oV ?_;refine oN (tC (cS ?_));refine cC rfl (fun h1 => ?_) (fun h1 => ?_)
 ·
  have f1 := h1;try simp only [bl] at f1
  obtain ⟨s,hs⟩ : ∃ s,l[i]? = some s := ⟨l[i]'(by omega),List.getElem?_eq_getElem (by omega)⟩
  refine cK (tC (cS (cB (sR ?_))));refine vk trivial rfl underlying22 sizeOf9 rfl (h) rfl (by omega) ?_;refine q7 trivial rfl isAgg9 rfl (qau h hs) ?_;refine oV ?_;refine nS ?_;refine oV ?_;refine oQ call18 rfl (qk7 _) ?_;refine oV ?_;refine nT ?_;refine cC rfl (fun h2 => ?_) (fun h2 => ?_)
  ·
   have f2 := h2;try simp only [bl] at f2
   refine sR ?_;refine oV ?_;refine oN (tC (cT (qb (tR (tR (qb (tR ?_)))))));refine ret1 rfl rfl ?_;refine qe (congrArg Value.bool ?_)
   unfold jx
   rw [hF,qey hs,show vt s = false by simpa using h2]; rfl
  have f2 := h2;try simp only [bl] at f2
  refine cK (qg (tC (cR ?_)))
  (refine qh trivial rfl rfl rfl ?_ ?_; (omega))
  refine oV ?_;refine oN ?_;exact ql (i + 1) (sC rfl (sC rfl (sC rfl (sC rfl (sC rfl sN))))) (fun _ h => h) (by show l.length - (i + 1) < l.length - i; omega) ⟨by show i + 1 ≤ l.length; omega,by rw [hF,qey hs,show vt s = true by simpa using h2]; rfl⟩
 have f1 := h1;try simp only [bl] at f1
 have hin : i = l.length := by omega
 rw [hin,List.drop_length] at hF
 refine qp (qc (qc (qo rfl (tC (sR ?_)))));refine oV ?_;refine qu trivial rfl underlying22 rfl (h) ?_;iterate 2 refine oV ?_
 refine' oY (fun hb21 => ?_) ?_;rotate_left
 ·
  have fb21 := hb21
  try simp only [bl] at fb21
  refine gV hb21 ?_;refine qu (wS rfl rfl hb21) rfl underlying22 rfl (h) ?_;refine gV hb21 ?_;refine oN ?_;exact qa rfl
 refine oV ?_;refine nE ?_;refine ret1 rfl rfl ?_;refine qe (congrArg Value.bool ?_)
 unfold jx
 rw [hF,Bool.eq_iff_iff]
 simp
 omega
theorem qqq (neg : Bool) (va vb : Value) (A B : List Nat) {I : Hp} (ha : Ws I va A) (hb : Ws I vb B) : Fun prog 161 [.agg #[.bool neg,va,vb]] I [] (fun v _ _ => v = .bool (qx neg A B)) := by
 intro w hw
 refine qn _ func161 rfl ntmps161 rfl ?_ hw;refine sR ?_;refine vh trivial rfl rfl rfl (fun b1 => ?_);refine oV ?_;refine nS ?_;refine oF 0 underlying35 sizeOf4 ?_;refine oL isAgg4 ?_;refine oV ?_;refine' oY (fun hb6 => ?_) ?_;rotate_left
 ·
  have fb6 := hb6
  try simp only [bl] at fb6
  refine gF hb6 1 underlying35 sizeOf33 ?_;refine gL hb6 isAgg33 ?_;refine ve (wS rfl rfl hb6) rfl underlying33 rfl (ha) ?_;refine gV hb6 ?_;refine oN ?_;exact qa rfl
 refine' oY (fun hb12 => ?_) ?_;rotate_left
 ·
  have fb12 := hb12
  try simp only [bl] at fb12
  refine gF hb12 2 underlying35 sizeOf33 ?_;refine gL hb12 isAgg33 ?_;refine ve (wS rfl rfl hb12) rfl underlying33 rfl (hb) ?_;refine gV hb12 ?_;refine oN ?_;exact qa rfl
 refine oV ?_;refine nE ?_;refine ret1 rfl rfl ?_;refine qe (congrArg Value.bool ?_); unfold qx; rw [Bool.eq_iff_iff]; simp
theorem qz7 (neg : Bool) (va vb : Value) (A B : List Nat) {I : Hp} (ha : Ws I va A) (hb : Ws I vb B) (hs : A.length ≤ 2000000) (hs2 : B.length ≤ 2000000) : Fun prog 162 [.agg #[.bool neg,va,vb]] I [] (fun v _ _ => v = .bool (yb neg A B && !neg)) := by
 intro w hw
 refine qn _ func162 rfl ntmps162 rfl ?_ hw;refine sR ?_;refine vh trivial rfl rfl rfl (fun b1 => ?_);refine oV ?_;refine nS ?_;refine oA isAgg35 sizeOf35 ?_;refine oQ call175 rfl (qo4 neg _ _ _ _ ha hb (by omega) (by omega)) ?_;refine' oY (fun hb5 => ?_) ?_;rotate_left
 ·
  have fb5 := hb5
  try simp only [bl] at fb5
  refine gF hb5 0 underlying35 sizeOf4 ?_;refine gL hb5 isAgg4 ?_;refine gV hb5 ?_;refine oN ?_;exact qa rfl
 refine' oY (fun hb10 => ?_) ?_;rotate_left
 ·
  have fb10 := hb10
  try simp only [bl] at fb10
  refine gF hb10 1 underlying35 sizeOf33 ?_;refine gL hb10 isAgg33 ?_;refine yd (wS rfl rfl hb10) rfl call176 rfl (qhj _ _ ha hs) ?_;refine gV hb10 ?_;refine oN ?_;exact qa rfl
 refine' oY (fun hb16 => ?_) ?_;rotate_left
 ·
  have fb16 := hb16
  try simp only [bl] at fb16
  refine gF hb16 2 underlying35 sizeOf33 ?_;refine gL hb16 isAgg33 ?_;refine yd (wS rfl rfl hb16) rfl call176 rfl (qhj _ _ hb hs2) ?_;refine gV hb16 ?_;refine oN ?_;exact qa rfl
 refine oV ?_;refine nE ?_;refine ret1 rfl rfl ?_;refine qe (congrArg Value.bool ?_); unfold yb; rw [Bool.eq_iff_iff]; simp only [Bool.and_eq_true,decide_eq_true_eq]; constructor
 · rintro ⟨⟨⟨h1,h2⟩,h3⟩,h4⟩; exact ⟨⟨⟨h1,by omega⟩,by omega⟩,h2⟩
 · rintro ⟨⟨⟨h1,h2⟩,h3⟩,h4⟩; exact ⟨⟨⟨h1,h4⟩,by omega⟩,by omega⟩
def _root_.Go.Tw.NodeC.few (k : Nat) (c : NodeC) : Prop := c.n.length ≤ k ∧ c.d.length ≤ k
def qqr (c : NodeC) (v : Value) : Prop := ∃ m : Int,v = .tuple #[.int .i64 m,.bool (vj c).isSome] ∧ ∀ k,vj c = some k → m = k
theorem qez {c : NodeC} {m : Int} {b : Bool} (k : Nat) (hm : m = k) (h : vj c = if b = true then some k else none) : qqr c (.tuple #[.int .i64 m,.bool b]) := by
 refine ⟨m,by rw [h]; cases b <;> rfl,fun k' hk => ?_⟩
 rw [h] at hk
 cases b
 · cases hk
 · cases hk; exact hm
theorem qb4 (s : ByteArray) : (s.toList == (ByteArray.mk #[]).toList) = s.toList.isEmpty := by
 rw [show (ByteArray.mk #[]).toList = [] by rw [ByteArray.toList_eq]]
 cases s.toList <;> rfl
theorem qqs {c : NodeC} (h : c.kind = 0) : vj c = if (vt c.name && qx c.neg c.n c.d && c.a == 0 && c.b == 0 && c.e == 0) = true then some 0 else none := by unfold vj; rw [if_pos h]; rfl
theorem qk9 {c : NodeC} (h : c.kind = 1) : vj c = if (c.name.toList.isEmpty && (yb c.neg c.n c.d && !c.neg) && c.a == 0 && c.b == 0 && c.e == 0) = true then some 0 else none := by unfold vj; rw [if_neg (by omega),if_pos h]; rfl
theorem qqt {c : NodeC} (h : 2 ≤ c.kind ∧ c.kind ≤ 5) : vj c = if (c.name.toList.isEmpty && qx c.neg c.n c.d && c.e == 0) = true then some 2 else none := by unfold vj; rw [if_neg (by omega),if_neg (by omega),if_pos h]; rfl
theorem qqu {c : NodeC} (h : c.kind = 6) : vj c = if (c.name.toList.isEmpty && qx c.neg c.n c.d && c.b == 0 && c.e == 0) = true then some 1 else none := by unfold vj; rw [if_neg (by omega),if_neg (by omega),if_neg (by omega),if_pos h]; rfl
theorem qqv {c : NodeC} (h : c.kind = 7) : vj c = if (c.name.toList.isEmpty && qx c.neg c.n c.d && c.b == 0 && decide (c.e ≥ -20) && decide (c.e ≤ 20)) = true then some 1 else none := by unfold vj; rw [if_neg (by omega),if_neg (by omega),if_neg (by omega),if_neg (by omega),if_pos h]; rfl
theorem qqw {c : NodeC} (h : c.kind < 0 ∨ 7 < c.kind) : vj c = none := by unfold vj; rw [if_neg (by omega),if_neg (by omega),if_neg (by omega),if_neg (by omega),if_neg (by omega)]
theorem qz8 (o : qd) {I : Hp} (ho : o.ok I) (hf : o.c.few 2000000) : Fun prog 132 [.agg o.cells.toArray] I [] (fun v _ _ => qqr o.c v) := by
 have ha := ho.1
 have hb := ho.2
 have hb1 := ha.cells1
 have hb2 := hb.cells1
 obtain ⟨⟨kind,a,b,e,name,neg,n,d⟩,vn,vd⟩ := o
 change Ws I vn n at ha
 change Ws I vd d at hb
 unfold qd.cells
 intro w hw
 refine qn _ func132 rfl ntmps132 rfl ?_ hw;refine sR ?_;refine vh trivial rfl rfl rfl (fun b1 => ?_);iterate 2 refine oV ?_
 refine nS ?_;refine oF 4 underlying37 sizeOf9 ?_;refine oL isAgg9 ?_;refine oV ?_;refine' oY (fun hb8 => ?_) ?_;rotate_left
 ·
  have fb8 := hb8
  try simp only [bl] at fb8
  refine gF hb8 5 underlying37 sizeOf35 ?_;refine qcb (wS rfl rfl hb8) rfl isAgg35 sizeOf35 rfl (by repeat constructor) (by repeat constructor) ?_;refine yd (wS rfl rfl hb8) rfl call161 rfl (qqq neg vn vd n d ha hb) ?_;refine oN ?_;exact qa rfl
 refine oV ?_;refine nU ?_;refine oF 0 underlying37 sizeOf3 ?_;refine oL isAgg3 ?_;refine oN (tC (cB (sR ?_)));iterate 2 refine oV ?_
 refine nT ?_;refine cC rfl (fun h1 => ?_) (fun h1 => ?_)
 ·
  have f1 := h1;try simp only [bl] at f1
  refine cS ?_;refine jf (by kernel_rfl) (by kernel_rfl) (fun _ h => h.drawn) ?_;refine oF 4 underlying37 sizeOf9 ?_;refine oL isAgg9 ?_;refine oQ call18 rfl (qk7 _) ?_;refine' oY (fun hb20 => ?_) ?_;rotate_left
  ·
   have fb20 := hb20
   try simp only [bl] at fb20
   refine gF hb20 5 underlying37 sizeOf35 ?_;refine qcb (wS rfl rfl hb20) rfl isAgg35 sizeOf35 rfl (by repeat constructor) (by repeat constructor) ?_;refine yd (wS rfl rfl hb20) rfl call161 rfl (qqq neg vn vd n d ha hb) ?_;refine oN ?_;exact qa rfl
  refine' oY (fun hb25 => ?_) ?_;rotate_left
  ·
   have fb25 := hb25
   try simp only [bl] at fb25
   refine gF hb25 1 underlying37 sizeOf3 ?_;refine gL hb25 isAgg3 ?_;refine gV hb25 ?_;refine oN ?_;exact qa rfl
  refine' oY (fun hb30 => ?_) ?_;rotate_left
  ·
   have fb30 := hb30
   try simp only [bl] at fb30
   refine gF hb30 2 underlying37 sizeOf3 ?_;refine gL hb30 isAgg3 ?_;refine gV hb30 ?_;refine oN ?_;exact qa rfl
  refine' oY (fun hb35 => ?_) ?_;rotate_left
  ·
   have fb35 := hb35
   try simp only [bl] at fb35
   refine gF hb35 3 underlying37 sizeOf3 ?_;refine gL hb35 isAgg3 ?_;refine gV hb35 ?_;refine oN ?_;exact qa rfl
  iterate 2 refine oV ?_
  refine oN (tC (cT (qb (tR ?_))));refine ret2 rfl rfl rfl ?_;refine qe (qez 0 rfl ?_); rw [qqs (show kind = 0 by omega)]; try rfl
 have f1 := h1;try simp only [bl] at f1
 refine sR ?_;iterate 2 refine oV ?_
 refine nT ?_;refine cC rfl (fun h2 => ?_) (fun h2 => ?_)
 ·
  have f2 := h2;try simp only [bl] at f2
  refine cS ?_;refine jf (by kernel_rfl) (by kernel_rfl) (fun _ h => h.drawn) ?_;refine oF 4 underlying37 sizeOf9 ?_;refine oL isAgg9 ?_;refine oV ?_;refine' oY (fun hb45 => ?_) ?_;rotate_left
  ·
   have fb45 := hb45
   try simp only [bl] at fb45
   refine gF hb45 5 underlying37 sizeOf35 ?_;refine qcb (wS rfl rfl hb45) rfl isAgg35 sizeOf35 rfl (by repeat constructor) (by repeat constructor) ?_;refine yd (wS rfl rfl hb45) rfl call162 rfl (qz7 neg vn vd n d ha hb hf.1 hf.2) ?_;refine oN ?_;exact qa rfl
  refine' oY (fun hb50 => ?_) ?_;rotate_left
  ·
   have fb50 := hb50
   try simp only [bl] at fb50
   refine gF hb50 1 underlying37 sizeOf3 ?_;refine gL hb50 isAgg3 ?_;refine gV hb50 ?_;refine oN ?_;exact qa rfl
  refine' oY (fun hb55 => ?_) ?_;rotate_left
  ·
   have fb55 := hb55
   try simp only [bl] at fb55
   refine gF hb55 2 underlying37 sizeOf3 ?_;refine gL hb55 isAgg3 ?_;refine gV hb55 ?_;refine oN ?_;exact qa rfl
  refine' oY (fun hb60 => ?_) ?_;rotate_left
  ·
   have fb60 := hb60
   try simp only [bl] at fb60
   refine gF hb60 3 underlying37 sizeOf3 ?_;refine gL hb60 isAgg3 ?_;refine gV hb60 ?_;refine oN ?_;exact qa rfl
  iterate 2 refine oV ?_
  refine oN (tC (cT (qb (tR ?_))));refine ret2 rfl rfl rfl ?_;refine qe (qez 0 rfl ?_); rw [qk9 (show kind = 1 by omega),qb4]; try rfl
 have f2 := h2;try simp only [bl] at f2
 refine zh (ι := Bool) [1,4,14] (.cons rfl (.cons rfl (.cons rfl .nil))) (fun z E0 => (65,.bool z) :: E0) (fun z => St w [] I [.box b1 (.cells [.int .i64 kind,.int .i64 a,.int .i64 b,.int .i64 e,.string name,.bool neg,vn,vd].toArray 37 (0,0))]) (fun z => (z = true ↔ 2 ≤ kind ∧ kind ≤ 5)) ?_ ?_
 ·
  refine sR ?_;iterate 2 refine oV ?_
  refine nT ?_;refine cC rfl (fun h3 => ?_) (fun h3 => ?_)
  ·
   have f3 := h3;try simp only [bl] at f3
   refine cK ?_
   (exact meet (decide (kind = 2)) (sC rfl (sC rfl (sC rfl (sC rfl sN)))) (fun _ h => h) (by simp only [decide_eq_true_eq]; omega))
  have f3 := h3;try simp only [bl] at f3
  refine sR ?_;iterate 2 refine oV ?_
  refine nT ?_;refine cC rfl (fun h4 => ?_) (fun h4 => ?_)
  ·
   have f4 := h4;try simp only [bl] at f4
   refine cK ?_
   (exact meet (decide (kind = 3)) (sC rfl (sC rfl (sC rfl (sC rfl sN)))) (fun _ h => h) (by simp only [decide_eq_true_eq]; omega))
  have f4 := h4;try simp only [bl] at f4
  refine sR ?_;iterate 2 refine oV ?_
  refine nT ?_;refine cC rfl (fun h5 => ?_) (fun h5 => ?_)
  ·
   have f5 := h5;try simp only [bl] at f5
   refine cK ?_
   (exact meet (decide (kind = 4)) (sC rfl (sC rfl (sC rfl (sC rfl sN)))) (fun _ h => h) (by simp only [decide_eq_true_eq]; omega))
  have f5 := h5;try simp only [bl] at f5
  refine cR ?_;iterate 2 refine oV ?_
  refine oN ?_
  (exact meet (decide (kind = 5)) (sC rfl (sC rfl (sC rfl (sC rfl sN)))) (fun _ h => h) (by simp only [decide_eq_true_eq]; omega))
 rintro z hz
 try dsimp only
 refine cC rfl (fun h6 => ?_) (fun h6 => ?_)
 ·
  have f6 := h6;try simp only [bl] at f6
  have hk := hz.1 (by simpa using h6)
  refine cS ?_;refine jf (by kernel_rfl) (by kernel_rfl) (fun _ h => h.drawn) ?_;refine oV ?_;refine' oY (fun hb71 => ?_) ?_;rotate_left
  ·
   have fb71 := hb71
   try simp only [bl] at fb71
   refine gF hb71 3 underlying37 sizeOf3 ?_;refine gL hb71 isAgg3 ?_;refine gV hb71 ?_;refine oN ?_;exact qa rfl
  iterate 2 refine oV ?_
  refine oN (tC (cT (qb (tR ?_))));refine ret2 rfl rfl rfl ?_
  (refine qe (qez 2 rfl ?_); rw [qqt (show 2 ≤ kind ∧ kind ≤ 5 by omega),qb4]; try rfl)
 have f6 := h6;try simp only [bl] at f6
 have hk : ¬ (2 ≤ kind ∧ kind ≤ 5) := fun h => by simp [hz.2 h] at h6
 refine sR ?_;iterate 2 refine oV ?_
 refine nT ?_;refine cC rfl (fun h7 => ?_) (fun h7 => ?_)
 ·
  have f7 := h7;try simp only [bl] at f7
  refine cS ?_;refine jf (by kernel_rfl) (by kernel_rfl) (fun _ h => h.drawn) ?_;refine oV ?_;refine' oY (fun hb79 => ?_) ?_;rotate_left
  ·
   have fb79 := hb79
   try simp only [bl] at fb79
   refine gF hb79 2 underlying37 sizeOf3 ?_;refine gL hb79 isAgg3 ?_;refine gV hb79 ?_;refine oN ?_;exact qa rfl
  refine' oY (fun hb84 => ?_) ?_;rotate_left
  ·
   have fb84 := hb84
   try simp only [bl] at fb84
   refine gF hb84 3 underlying37 sizeOf3 ?_;refine gL hb84 isAgg3 ?_;refine gV hb84 ?_;refine oN ?_;exact qa rfl
  iterate 2 refine oV ?_
  refine oN (tC (cT (qb (tR ?_))));refine ret2 rfl rfl rfl ?_
  (refine qe (qez 1 rfl ?_); rw [qqu (show kind = 6 by omega),qb4]; try rfl)
 have f7 := h7;try simp only [bl] at f7
 refine sR ?_;iterate 2 refine oV ?_
 refine nT ?_;refine cC rfl (fun h8 => ?_) (fun h8 => ?_)
 ·
  have f8 := h8;try simp only [bl] at f8
  refine cS ?_;refine jf (by kernel_rfl) (by kernel_rfl) (fun _ h => h.drawn) ?_;refine oV ?_;refine' oY (fun hb92 => ?_) ?_;rotate_left
  ·
   have fb92 := hb92
   try simp only [bl] at fb92
   refine gF hb92 2 underlying37 sizeOf3 ?_;refine gL hb92 isAgg3 ?_;refine gV hb92 ?_;refine oN ?_;exact qa rfl
  refine' oY (fun hb97 => ?_) ?_;rotate_left
  ·
   have fb97 := hb97
   try simp only [bl] at fb97
   refine gF hb97 3 underlying37 sizeOf3 ?_;refine gL hb97 isAgg3 ?_;refine gV hb97 ?_;refine oN ?_;exact qa rfl
  refine' oY (fun hb102 => ?_) ?_;rotate_left
  ·
   have fb102 := hb102
   try simp only [bl] at fb102
   refine gF hb102 3 underlying37 sizeOf3 ?_;refine gL hb102 isAgg3 ?_;refine gV hb102 ?_;refine oN ?_;exact qa rfl
  iterate 2 refine oV ?_
  refine oN (tC (cT (qb (tR ?_))));refine ret2 rfl rfl rfl ?_
  (refine qe (qez 1 rfl ?_); rw [qqv (show kind = 7 by omega),qb4]; try rfl)
 have f8 := h8;try simp only [bl] at f8
 refine cK (qg (tC (sR ?_)));iterate 2 refine oV ?_
 refine nE ?_;refine ret2 rfl rfl rfl ?_
 (refine qe (qez 0 rfl ?_); rw [qqw (show kind < 0 ∨ 7 < kind by omega)]; try rfl)
def nss (S : List Nat) : List (List Value) := S.map fun (x : Nat) => [Value.int .i64 (x : Int)]
theorem qa6 (S : List Nat) : (nss S).length = S.length := by simp [nss]
theorem qh5 (S : List Nat) : (nss S).flatten = nvs S := qk5 S
theorem qqx (S : List Nat) : ∀ c ∈ nss S,zb c = true := by
 intro c hc
 obtain ⟨x,_,rfl⟩ := List.mem_map.1 hc
 rfl
theorem qf7 (S : List Nat) : ∀ c ∈ nss S,c.length = 1 := by
 intro c hc
 obtain ⟨x,_,rfl⟩ := List.mem_map.1 hc
 rfl
theorem qh6 {I : Hp} {v : Value} {l : List Nat} (h : Slc I 1 v (nss l)) {i : Nat} {z : Nat} (hz : l[i]? = some z) : I.cell? ⟨slcB v, slcO v + i * 1, none⟩ = some (.int .i64 (z : Int)) :=
 h.cells i _ (by unfold nss; rw [List.getElem?_map,hz]; rfl) 0 _ rfl
theorem qav {I : Hp} {v : Value} {ns : List qd} (h : Slc I 8 v (nds ns)) {i : Nat} {o : qd} (ho : ns[i]? = some o) : ∀ k y, o.cells[k]? = some y → I.cell? ⟨slcB v, slcO v + i * 8 + k, none⟩ = some y :=
 h.cells i _ (by unfold nds; rw [List.getElem?_map,ho]; rfl)
theorem zl (ns : List qd) : (nds ns).length = ns.length := by simp [nds]
def qqy (c : NodeC) (j : Nat) : Int := if j = 0 then c.a else c.b
theorem qla {c : NodeC} {fr : Int} {made : List Nat} (hl : made.length ≤ 2) : qac c fr made = true ↔ ∀ (j x : Nat),made[j]? = some x → qqy c j = (x : Int) + fr := by
 match made,hl with
 | [],_ => simp [qac]
 | [x], _ =>
   simp only [qac,decide_eq_true_eq]
   constructor
   · intro h j y hj
     cases j with
     | zero => simp at hj; subst hj; exact h
     | succ j => simp at hj
   · intro h; exact h 0 x rfl
 | [x, y], _ =>
   simp only [qac,Bool.and_eq_true,decide_eq_true_eq]
   constructor
   · rintro ⟨h1, h2⟩ j z hj
     match j with
     | 0 => simp at hj; subst hj; exact h1
     | 1 => simp at hj; subst hj; exact h2
     | j + 2 => simp at hj
   · intro h; exact ⟨h 0 x rfl,h 1 y rfl⟩
 | _ :: _ :: _ :: _,hl => simp at hl
theorem qqz (out : List Nat) {made : List Nat} {j x : Nat} (h : made[j]? = some x) : hOf out (made.take (j + 1)) = max (hOf out (made.take j)) (out.getD x 0) := by
 unfold hOf
 rw [List.take_add_one,h,List.map_append,List.foldl_append]
 rfl
theorem qlb {fr : Int} {l : List NodeC} {i : Nat} {c : NodeC} {st : List Nat × List Nat} (hi : l[i]? = some c) (h : runH fr (l.take i) ([],[]) = some st) (hs : jh fr st c = none) : runH fr l ([],[]) = none := by
 have e : l = l.take i ++ c :: l.drop (i + 1) := by
   have hlt := (List.getElem?_eq_some_iff.1 hi).1
   have h2 := (List.getElem?_eq_some_iff.1 hi).2
   conv => lhs; rw [← List.take_append_drop i l,List.drop_eq_getElem_cons hlt,h2]
 rw [e,qcu,h]
 show (jh fr st c).bind _ = none
 rw [hs]; rfl
theorem qz9 {fr : Int} {l : List NodeC} {i : Nat} {c : NodeC} {st st' : List Nat × List Nat} (hi : l[i]? = some c) (h : runH fr (l.take i) ([],[]) = some st) (hs : jh fr st c = some st') : runH fr (l.take (i + 1)) ([],[]) = some st' := by
 rw [List.take_add_one,hi,qcu,h]
 show (jh fr st c).bind _ = _
 rw [hs]; rfl
theorem qlc {l : List NodeC} {b : Nat} (h : runH (b : Int) l ([],[]) = none) : hZ l b = none := by unfold hZ; rw [h]
theorem q0a {l : List NodeC} {b : Nat} {out S : List Nat} (h : runH (b : Int) l ([],[]) = some (out,S)) : hZ l b = if S.length = 1 then some out else none := by
 unfold hZ
 rw [h]
 match S with
 | [] => rfl
 | [x] => rfl
 | x :: y :: S => rw [if_neg (by simp)]
def hRes (o : Option (List Nat)) (v : Value) (I' : Hp) : Prop := ∃ u,v = .tuple #[u,.bool o.isSome] ∧ ∀ hs,o = some hs → Slc I' 1 u (nss hs)
theorem qdr {o : Option (List Nat)} {u : Value} {I' : Hp} (h : o = none) : hRes o (.tuple #[u,.bool false]) I' := ⟨u,by rw [h]; rfl,fun hs e => by rw [h] at e; cases e⟩
theorem qq0 {o : Option (List Nat)} {out : List Nat} {c : Prop} [Decidable c] {b : Bool} {u : Value} {I' : Hp} (h : o = if c then some out else none) (hb : b = decide c) (hs : Slc I' 1 u (nss out)) : hRes o (.tuple #[u,.bool b]) I' := by
 refine ⟨u,?_,fun l e => ?_⟩
 · rw [h,hb]; by_cases hc : c <;> simp [hc]
 · rw [h] at e
   split at e
   · cases e; exact hs
   · cases e
theorem q0b (va : Value) (ns : List qd) (fr : Nat) {I : Hp} (hsa : Slc I 8 va (nds ns)) (hok : ∀ o ∈ ns, o.ok I) (hf : ∀ o ∈ ns, o.c.few 2000000) (hn : ns.length ≤ 100000) (hfr : fr ≤ 100000) :
   Fun prog 96 [va,.int .i64 (fr : Int)] I [] (fun v I' _ => hRes (hZ (ns.map qd.c) fr) v I') := by
 have hln := zl ns
 intro w hw
 refine qz _ func96 rfl ntmps96 rfl ?_ hw;refine sR ?_;iterate 2 refine oV ?_
 refine nS ?_;iterate 2 refine oV ?_
 refine nU ?_;refine oV ?_;refine qu trivial rfl underlying24 rfl (hsa) ?_;refine oV ?_;refine oN (tC (cB ?_));refine qt (ι := Nat × List Nat × List Nat × Value × Value × Hp) [1,17,18] (.cons rfl (.cons rfl (.cons rfl .nil))) (fun x => ns.length - x.1) (fun x E0 => (6,x.2.2.2.1) :: (7,x.2.2.2.2.1) :: (19,.int .i64 (x.1 : Int)) :: E0) (fun x => St w [] x.2.2.2.2.2 [.row x.2.2.2.1 3 1 x.2.1.length (nvs x.2.1)]) (fun x => x.1 ≤ ns.length ∧ x.2.1.length = x.1 ∧ runH (fr : Int) ((ns.map qd.c).take x.1) ([],[]) = some (x.2.1,x.2.2.1) ∧ Slc x.2.2.2.2.2 1 x.2.2.2.2.1 (nss x.2.2.1) ∧ (∀ k ∈ x.2.2.1,k < x.1) ∧ (∀ k ∈ x.2.1,k ≤ x.1) ∧ x.2.2.1.length ≤ x.1 ∧ Ext w.heap.size I x.2.2.2.2.2) ((0,[],[],.slice none 0 0,.slice none 0 0,I)) (sC rfl (sC rfl (sC rfl (sC rfl (sC rfl (sC rfl sN)))))) (fun _ h => h.nilRow _ _) (⟨Nat.zero_le _,rfl,rfl,Slc.nil _ _,fun k hk => (by cases hk),fun k hk => (by cases hk),Nat.le_refl _,Ext.refl _ _⟩) ?_;rintro ⟨i,out,S,uo,us,I1⟩ ⟨hi,hol,hrun,hS,hSl,hoh,hSn,hx1⟩
 try dsimp only
 simp only at hi hol hrun hS hSl hoh hSn hx1; have hsl := qa6 S
 refine sR ?_;refine oV ?_;refine oN (tC (cS ?_));refine cC rfl (fun h1 => ?_) (fun h1 => ?_)
 ·
  have f1 := h1;try simp only [bl] at f1
  obtain ⟨o,ho⟩ : ∃ o,ns[i]? = some o := ⟨ns[i]'(by omega),List.getElem?_eq_getElem (by omega)⟩
  have hoc : (ns.map qd.c)[i]? = some o.c := by rw [List.getElem?_map,ho]; rfl
  have hom := List.mem_of_getElem? ho
  have hoo := (hok o hom).le hx1.le
  have hw1 : Ws I1 o.vn o.c.n := hoo.1
  have hw2 : Ws I1 o.vd o.c.d := hoo.2
  refine cK (tC (cS (cB (sR ?_))));refine oV ?_;refine vk trivial rfl underlying24 sizeOf37 rfl (hsa.le hx1.le) rfl (by omega) ?_;refine jz trivial rfl isAgg37 sizeOf37 rfl rfl (qav (hsa.le hx1.le) ho) ?_;refine qq trivial rfl zeroValue37 rfl (fun b9 => ?_);refine oV ?_;refine oS sizeOf37 ?_;refine nS ?_;refine oA isAgg37 sizeOf37 ?_;refine qc1 trivial rfl call132 rfl (qz8 o hoo (hf o hom)) ?_;rintro _ ⟨m,rfl,hm⟩;iterate 5 refine oV ?_
  refine nU ?_;iterate 2 refine oV ?_
  refine' oZ (fun hb31 => ?_) ?_;rotate_left
  ·
   have fb31 := hb31
   try simp only [bl] at fb31
   refine gV hb31 ?_;refine qu (wS rfl rfl hb31) rfl underlying52 rfl (hS) ?_;iterate 2 refine gV hb31 ?_
   refine oN ?_;exact qa rfl
  refine nT ?_;refine cC rfl (fun h2 => ?_) (fun h2 => ?_)
  ·
   have f2 := h2;try simp only [bl] at f2
   have hno : hZ (ns.map qd.c) fr = none := by
     refine qlc (qlb hoc hrun ?_)
     unfold jh
     cases hp : vj o.c with
     | none => rfl
     | some k =>
       have := hm k hp
       have h2' := h2
       rw [hp] at h2'
       simp at h2'
       dsimp only
       rw [if_neg (fun hh => by have := hh.1; omega)]
   refine sR ?_;iterate 2 refine oV ?_
   refine oN (tC (cT (tR (qb (tR (tR (qb (tR ?_))))))));refine ret2 rfl rfl rfl ?_;exact leaf hx1 (List.nil_sublist _) (qdr hno)
  have f2 := h2;try simp only [bl] at f2
  obtain ⟨k,hk⟩ := Option.isSome_iff_exists.1 f2.1
  have hmk := hm k hk
  subst hmk
  have hk2 := qk1 hk
  have hkl : k ≤ S.length := by have := f2.2; omega
  have hcutA := hS.cut (lo := (((nss S).length : Int) - (k : Int)).toNat) (hi := (nss S).length) (by omega) (Nat.le_refl _)
  rw [List.take_length] at hcutA
  have hmd : (nss S).drop (((nss S).length : Int) - (k : Int)).toNat = nss (S.drop (S.length - k)) := by unfold nss; rw [List.map_drop,List.length_map]; congr 1; omega
  rw [hmd] at hcutA
  have hcutB := hS.cut (lo := 0) (hi := (((nss S).length : Int) - (k : Int)).toNat) (by omega) (by omega)
  have hmt : (nss S).take (((nss S).length : Int) - (k : Int)).toNat = nss (S.take (S.length - k)) := by unfold nss; rw [List.map_take,List.length_map]; congr 1; omega
  rw [List.drop_zero,hmt] at hcutB
  have hmsub : ∀ x ∈ S.drop (S.length - k),x < i := fun x hx => hSl x (List.mem_of_mem_drop hx)
  have hml : (S.drop (S.length - k)).length = k := by rw [List.length_drop]; omega
  have hstep : jh (fr : Int) (out,S) o.c = if qac o.c fr (S.drop (S.length - k)) = true then some (out ++ [hOf out (S.drop (S.length - k)) + 1],S.take (S.length - k) ++ [out.length]) else none := by
    unfold jh
    rw [hk]
    dsimp only
    by_cases hmo : qac o.c fr (S.drop (S.length - k)) = true
    · rw [if_pos ⟨hkl,hmo⟩,if_pos hmo]
    · rw [if_neg (fun hh => hmo hh.2),if_neg hmo]
  have htl : (S.take (S.length - k)).length = S.length - k := by rw [List.length_take]; omega
  have htm : ∀ x ∈ S.take (S.length - k),x < i := fun x hx => hSl x (List.mem_of_mem_take hx)
  generalize S.drop (S.length - k) = made at hcutA hmsub hml hstep
  generalize S.take (S.length - k) = S2 at hcutB hstep htl htm
  refine kS ?_;iterate 2 refine oV ?_
  refine qu trivial rfl underlying52 rfl (hS) ?_;refine oV ?_
  (refine vp trivial rfl rfl rfl ?_ ?_; (omega))
  refine qu6 trivial rfl underlying52 sizeOf3 rfl (hS) rfl (by omega) ?_;refine oV ?_;refine nS ?_;iterate 2 refine oV ?_
  refine qu trivial rfl underlying52 rfl (hS) ?_;refine oV ?_
  (refine vp trivial rfl rfl rfl ?_ ?_; (omega))
  refine qns trivial rfl underlying52 sizeOf3 rfl (hS) rfl (by omega) ?_;refine oV ?_;refine nS ?_;refine oV ?_;refine nU ?_;refine oV ?_;refine qu trivial rfl underlying52 rfl (hcutA) ?_;refine oV ?_;refine oN (tC (cB ?_));refine qt (ι := Nat × Nat) [1,6,7,8,9,17,18,19,49,50] (.cons rfl (.cons rfl (.cons rfl (.cons rfl (.cons rfl (.cons rfl (.cons rfl (.cons rfl (.cons rfl (.cons rfl .nil)))))))))) (fun x => made.length - x.1) (fun x E0 => (13,.int .i64 (x.2 : Int)) :: (51,.int .i64 (x.1 : Int)) :: E0) (fun x => St w [] I1 [.row uo 3 1 out.length (nvs out),.box b9 (.cells o.cells.toArray 37 (0,0))]) (fun x => x.1 ≤ made.length ∧ x.2 = hOf out (made.take x.1) ∧ x.2 ≤ i ∧ ∀ j y,j < x.1 → made[j]? = some y → qqy o.c j = y + (fr : Int)) ((0,0)) (sC rfl (sC rfl (sC rfl (sC rfl (sC rfl (sC rfl (sC rfl (sC rfl (sC rfl (sC rfl (sC rfl (sC rfl sN)))))))))))) (fun _ h => h.sort (by repeat constructor)) (⟨Nat.zero_le _,rfl,Nat.zero_le _,fun j y hj => absurd hj (Nat.not_lt_zero _)⟩) ?_;rintro ⟨j,h⟩ ⟨hj,hh,hhi,hpre⟩
  try dsimp only
  simp only at hj hh hhi hpre; have hml2 := qa6 made
  refine sR ?_;refine oV ?_;refine oN (tC (cS ?_));refine cC rfl (fun h3 => ?_) (fun h3 => ?_)
  ·
   have f3 := h3;try simp only [bl] at f3
   obtain ⟨y,hy⟩ : ∃ y,made[j]? = some y := ⟨made[j]'(by omega),List.getElem?_eq_getElem (by omega)⟩
   have hyi := hmsub y (List.mem_of_getElem? hy)
   refine cK (tC (cS (cB (sR ?_))));refine oV ?_;refine vk trivial rfl underlying52 sizeOf3 rfl (hcutA) rfl (by omega) ?_;refine q7 trivial rfl isAgg3 rfl (qh6 hcutA hy) ?_;iterate 2 refine oV ?_
   refine oN (tC (cS (cS ?_)))
   rcases (show j = 0 ∨ j = 1 by omega) with rfl | rfl
   ·
    refine cR ?_;refine oF 1 underlying37 sizeOf3 ?_;refine oL isAgg3 ?_;refine oF 2 underlying37 sizeOf3 ?_;refine oL isAgg3 ?_;refine qnl (r := .agg #[.int .i64 o.c.a,.int .i64 o.c.b]) trivial rfl rfl (fun w => by kernel_rfl) ?_;refine oV ?_;refine qqk (r := .int .i64 o.c.a) trivial rfl rfl rfl (fun w => by kernel_rfl) ?_;refine oV ?_;refine nS ?_;iterate 3 refine oV ?_
    (refine qh trivial rfl rfl rfl ?_ ?_; (omega))
    refine oV ?_;refine nT ?_;refine cC rfl (fun h4 => ?_) (fun h4 => ?_)
    ·
     have f4 := h4;try simp only [bl] at f4
     have hno : hZ (ns.map qd.c) fr = none := by
       refine qlc (qlb hoc hrun ?_)
       rw [hstep,if_neg]
       intro hmo
       have hw := (qla (by omega)).1 hmo _ _ hy
       exact f4 hw
     refine sR ?_;iterate 2 refine oV ?_
     refine oN (tC (cT (tR (qb (tR (tR (qb (tR (qb (tR (tR (qb (tR ?_)))))))))))));refine ret2 rfl rfl rfl ?_;exact leaf hx1 (List.nil_sublist _) (qdr hno)
    have f4 := h4;try simp only [bl] at f4
    refine cK (tC (cR ?_));iterate 3 refine oV ?_
    refine zv trivial rfl underlying52 sizeOf3 rfl (by repeat constructor) rfl (by omega) ?_;refine j0 trivial rfl isAgg3 (by repeat constructor) rfl (by rw [show ((y : Nat) : Int).toNat * 1 = y by omega]; exact qbr (by omega)) ?_;refine qbf trivial rfl rfl rfl ?_;refine oV ?_;refine oN (qg (tC ?_))
    have hy0 := qet (k := i) hoh y
    rw [show max (h : Int) ((out.getD y 0 : Nat) : Int) = ((max h (out.getD y 0) : Nat) : Int) by omega]
    refine cR ?_
    (refine qh trivial rfl rfl rfl ?_ ?_; (omega))
    refine oV ?_;refine oN ?_
    (exact ql (0 + 1, max h (out.getD y 0)) (sC rfl (sC rfl (sC rfl (sC rfl (sC rfl (sC rfl (sC rfl (sC rfl (sC rfl (sC rfl (sC rfl (sC rfl sN)))))))))))) (fun _ h => h.sort (by repeat constructor)) (by show made.length - (0 + 1) < made.length - 0; omega) ⟨by show 0 + 1 ≤ _; omega, by rw [qqz out hy, ← hh], by simp only; omega, fun j' y' hj' hy' => by
       have e : j' = 0 := by simp only at hj'; omega
       subst e
       rw [hy] at hy'
       rw [← Option.some.inj hy']
       exact f4⟩)
   refine cR ?_;refine oF 1 underlying37 sizeOf3 ?_;refine oL isAgg3 ?_;refine oF 2 underlying37 sizeOf3 ?_;refine oL isAgg3 ?_;refine qnl (r := .agg #[.int .i64 o.c.a,.int .i64 o.c.b]) trivial rfl rfl (fun w => by kernel_rfl) ?_;refine oV ?_;refine qqk (r := .int .i64 o.c.b) trivial rfl rfl rfl (fun w => by kernel_rfl) ?_;refine oV ?_;refine nS ?_;iterate 3 refine oV ?_
   (refine qh trivial rfl rfl rfl ?_ ?_; (omega))
   refine oV ?_;refine nT ?_;refine cC rfl (fun h4 => ?_) (fun h4 => ?_)
   ·
    have f4 := h4;try simp only [bl] at f4
    have hno : hZ (ns.map qd.c) fr = none := by
      refine qlc (qlb hoc hrun ?_)
      rw [hstep,if_neg]
      intro hmo
      have hw := (qla (by omega)).1 hmo _ _ hy
      exact f4 hw
    refine sR ?_;iterate 2 refine oV ?_
    refine oN (tC (cT (tR (qb (tR (tR (qb (tR (qb (tR (tR (qb (tR ?_)))))))))))));refine ret2 rfl rfl rfl ?_;exact leaf hx1 (List.nil_sublist _) (qdr hno)
   have f4 := h4;try simp only [bl] at f4
   refine cK (tC (cR ?_));iterate 3 refine oV ?_
   refine zv trivial rfl underlying52 sizeOf3 rfl (by repeat constructor) rfl (by omega) ?_;refine j0 trivial rfl isAgg3 (by repeat constructor) rfl (by rw [show ((y : Nat) : Int).toNat * 1 = y by omega]; exact qbr (by omega)) ?_;refine qbf trivial rfl rfl rfl ?_;refine oV ?_;refine oN (qg (tC ?_))
   have hy0 := qet (k := i) hoh y
   rw [show max (h : Int) ((out.getD y 0 : Nat) : Int) = ((max h (out.getD y 0) : Nat) : Int) by omega]
   refine cR ?_
   (refine qh trivial rfl rfl rfl ?_ ?_; (omega))
   refine oV ?_;refine oN ?_
   (exact ql (1 + 1, max h (out.getD y 0)) (sC rfl (sC rfl (sC rfl (sC rfl (sC rfl (sC rfl (sC rfl (sC rfl (sC rfl (sC rfl (sC rfl (sC rfl sN)))))))))))) (fun _ h => h.sort (by repeat constructor)) (by show made.length - (1 + 1) < made.length - 1; omega) ⟨by show 1 + 1 ≤ _; omega, by rw [qqz out hy, ← hh], by simp only; omega, fun j' y' hj' hy' => by
      rcases (by simp only at hj'; omega : j' < 1 ∨ j' = 1) with e | e
      · exact hpre j' y' e hy'
      · subst e
        rw [hy] at hy'
        rw [← Option.some.inj hy']
        exact f4⟩)
  have f3 := h3;try simp only [bl] at f3
  refine qp (qc (qc (qo rfl (tC (cS ?_)))))
  have hjm : j = made.length := by omega
  subst hjm
  rw [List.take_length] at hh
  have hmo : qac o.c fr made = true := (qla (by omega)).2 fun j' y' hy' => hpre j' y' (List.getElem?_eq_some_iff.1 hy').1 hy'
  rw [if_pos hmo,← hh] at hstep
  have hnx := qz9 hoc hrun hstep
  have hs2l := qa6 S2
  refine cR ?_;iterate 2 refine oV ?_
  (refine qh trivial rfl rfl rfl ?_ ?_; (omega))
  refine oB underlying52 sizeOf3 zeroValue3 fun b78 => ?_;refine oD underlying52 zd fun v79 => ?_;refine oV ?_;refine nR ?_;refine qu7 trivial rfl underlying52 sizeOf3 (fun v80 => ?_);refine oV ?_;refine oE underlying52 zd (hcutB) (qqx _) fun v82 => ?_;refine oV ?_;refine oB underlying52 sizeOf3 zeroValue3 fun b84 => ?_;refine oD underlying52 zd fun v85 => ?_;refine oV ?_;refine oN (qg (tC ?_))
  rw [show ([] : List Value) ++ (nss S2).flatten ++ ([Value.int .i64 (i : Int)] ++ []) = (nss (S2 ++ [i])).flatten by simp [nss]]
  refine qbj (u := v85) (xss := nss (S2 ++ [i])) (by repeat constructor) (by rw [qa6,hs2l,List.length_append]; simp only [List.length_cons,List.length_nil]; omega) (qf7 _) (by unfold maxLen; omega) (fun I2 hx2 hs2 => ?_);refine cR ?_
  (refine qh trivial rfl rfl rfl ?_ ?_; (omega))
  refine oV ?_;refine oN ?_
  exact ql (i + 1, out ++ [h + 1], S2 ++ [i], v79, v85, I2) (sC rfl (sC rfl (sC rfl (sC rfl (sC rfl (sC rfl sN)))))) (fun _ h => by rw [← qh4, List.length_append]; exact h.sort (by repeat constructor)) (by show ns.length - (i + 1) < ns.length - i; omega) ⟨by show i + 1 ≤ _; omega, by rw [List.length_append, hol]; rfl, by rw [hol] at hnx; exact hnx, hs2, fun k hk => by
    show k < i + 1
    rcases List.mem_append.1 hk with hk | hk
    · have := htm k hk; omega
    · rw [List.mem_singleton.1 hk]; omega,fun k hk => by
    show k ≤ i + 1
    rcases List.mem_append.1 hk with hk | hk
    · have := hoh k hk; omega
    · rw [List.mem_singleton.1 hk]; omega,by rw [List.length_append]; show S2.length + 1 ≤ i + 1; omega,hx1.trans hx2 (Nat.le_refl _)⟩
 have f1 := h1;try simp only [bl] at f1
 refine qp (qc (qc (qo rfl (tC (sR ?_)))));iterate 2 refine oV ?_
 refine qu trivial rfl underlying52 rfl (hS) ?_;iterate 3 refine oV ?_
 refine nE ?_;refine ret2 rfl rfl rfl ?_
 (have hin : i = ns.length := by omega
  subst hin
  rw [List.take_of_length_le (by rw [List.length_map]; exact Nat.le_refl _)] at hrun
  have hz := q0a hrun
  exact fun w' hw' => qji (e := 3) (size := 1) (nn := out.length) (u := uo) (xss := nss out) (B := []) hx1 (qa6 _) (qf7 _) (by unfold maxLen; omega) (fun I' hl hs' => qq0 hz (by rw [Bool.eq_iff_iff]; simp; omega) hs') w' (by rw [qh5]; exact hw'))
theorem qcw {I : Hp} {v : Value} {ls : List LetC} (h : Slc I 2 v (ls.map LetC.cells)) {i : Nat} {c : LetC} (hc : ls[i]? = some c) : ∀ k y, c.cells[k]? = some y → I.cell? ⟨slcB v, slcO v + i * 2 + k, none⟩ = some y :=
 h.cells i _ (by rw [List.getElem?_map,hc]; rfl)
theorem q0c {all : List NodeC} {ls : List LetC} {i : Nat} {c : LetC} (h : ls[i]? = some c) (out : List Nat) : tGo all (ls.drop i) out = if vt c.name = true ∧ (out.length : Int) ≤ c.root ∧ c.root < all.length then (hZ ((all.take (c.root + 1).toNat).drop out.length) out.length).bind fun h => tGo all (ls.drop (i + 1)) (out ++ h) else none := by
 rw [List.drop_eq_getElem_cons (List.getElem?_eq_some_iff.1 h).1,(List.getElem?_eq_some_iff.1 h).2]; rfl
theorem q0d {l : List NodeC} {b : Nat} {h : List Nat} (e : hZ l b = some h) : h.length = l.length ∧ ∀ k ∈ h,k ≤ l.length := by
 obtain ⟨x,_,rfl,rfl⟩ := qqg e
 rw [x.hs_len,x.nd_len]
 exact ⟨rfl,fun k hk => Nat.le_trans (x.hs_le k hk) x.h_le⟩
def tFin (all : List NodeC) (out : List Nat) : Option (List Nat) := if (∀ k ∈ out,k ≤ 60) ∧ out.length = all.length then some out else none
theorem q0e (vi vl vo va : Value) (p : qv) (ns : List qd) {I : Hp} (hp : yi I vi vl vo va p ns) (hf : ∀ o ∈ ns, o.c.few 2000000) :
   Fun prog 56 [.agg #[vi,vl,vo,va]] I [] (fun v I' _ => hRes (tZ p) v I') := by
 have hsi := hp.si
 have hsl := hp.sl
 have hso := hp.so
 have hsa := hp.sa
 have hli := jq p.ins
 have hlo := jq p.outs
 have hll : (p.lets.map LetC.cells).length = p.lets.length := List.length_map _
 have hla := zl ns
 have hal : p.all.length = ns.length := by rw [← hp.eq,List.length_map]
 have htz : tZ p = if (jx p.ins && decide ((1 : Int) ≤ p.ins.length) && decide (p.ins.length ≤ 40)) = true ∧ (jx p.outs && decide ((1 : Int) ≤ p.outs.length) && decide (p.outs.length ≤ 40)) = true ∧ p.lets.length ≤ 40 ∧ p.all.length ≤ 400 then (tGo p.all p.lets []).bind (tFin p.all) else none := by
   unfold tZ
   by_cases hc : (jx p.ins && decide ((1 : Int) ≤ p.ins.length) && decide (p.ins.length ≤ 40)) = true ∧ (jx p.outs && decide ((1 : Int) ≤ p.outs.length) && decide (p.outs.length ≤ 40)) = true ∧ p.lets.length ≤ 40 ∧ p.all.length ≤ 400
   · rw [if_pos hc, if_pos (by
       simp only [Bool.and_eq_true,decide_eq_true_eq] at hc
       obtain ⟨⟨⟨a1,a2⟩,a3⟩,⟨⟨b1,b2⟩,b3⟩,c3,c4⟩ := hc
       exact ⟨a1,by omega,a3,b1,by omega,b3,c3,c4⟩)]; rfl
   · rw [if_neg hc, if_neg (fun hh => hc (by
       simp only [Bool.and_eq_true,decide_eq_true_eq]
       exact ⟨⟨⟨hh.1,by omega⟩,hh.2.2.1⟩,⟨⟨hh.2.2.2.1,by omega⟩,hh.2.2.2.2.2.1⟩,hh.2.2.2.2.2.2⟩))]
 intro w hw
 refine qn _ func56 rfl ntmps56 rfl ?_ hw;refine sR ?_;refine vh trivial rfl rfl rfl (fun b1 => ?_);iterate 2 refine oV ?_
 refine nU ?_;refine oF 0 underlying26 sizeOf22 ?_;refine oL isAgg22 ?_;refine oQ call95 rfl (qqp _ _ _ hsi) ?_;refine oV ?_;refine' oZ (fun hb15 => ?_) ?_;rotate_left
 ·
  have fb15 := hb15
  try simp only [bl] at fb15
  refine gF hb15 2 underlying26 sizeOf22 ?_;refine gL hb15 isAgg22 ?_;refine yd (wS rfl rfl hb15) rfl call95 rfl (qqp _ _ _ hso) ?_;refine gV hb15 ?_;refine oN ?_;exact qa rfl
 refine' oZ (fun hb21 => ?_) ?_;rotate_left
 ·
  have fb21 := hb21
  try simp only [bl] at fb21
  refine gF hb21 1 underlying26 sizeOf23 ?_;refine gL hb21 isAgg23 ?_;refine qu (wS rfl rfl hb21) rfl underlying23 rfl (hsl) ?_;refine gV hb21 ?_;refine oN ?_;exact qa rfl
 refine' oZ (fun hb27 => ?_) ?_;rotate_left
 ·
  have fb27 := hb27
  try simp only [bl] at fb27
  refine gF hb27 3 underlying26 sizeOf24 ?_;refine gL hb27 isAgg24 ?_;refine qu (wS rfl rfl hb27) rfl underlying24 rfl (hsa) ?_;refine gV hb27 ?_;refine oN ?_;exact qa rfl
 refine nT ?_;refine cC rfl (fun h1 => ?_) (fun h1 => ?_)
 ·
  have f1 := h1;try simp only [bl] at f1
  have hno : tZ p = none := by
    rw [htz,if_neg]
    rintro ⟨c1,c2,c3,c4⟩
    rw [c1,c2] at h1
    simp at h1
    omega
  refine sR ?_;iterate 2 refine oV ?_
  refine nF ?_;refine ret2 rfl rfl rfl ?_;exact qe (qdr hno)
 have f1 := h1;try simp only [bl] at f1
 have hgo : tZ p = (tGo p.all p.lets []).bind (tFin p.all) := by
   rw [htz,if_pos]
   simp only [Bool.or_eq_false_iff,Bool.not_eq_false',decide_eq_false_iff_not] at h1
   exact ⟨h1.1.1.1,h1.1.1.2,by omega,by omega⟩
 have hfew : p.lets.length ≤ 40 ∧ p.all.length ≤ 400 := by
   simp only [Bool.or_eq_false_iff,Bool.not_eq_false',decide_eq_false_iff_not] at h1
   exact ⟨by omega,by omega⟩
 refine kS ?_;refine oV ?_;refine nU ?_;refine oF 1 underlying26 sizeOf23 ?_;refine oL isAgg23 ?_;refine qu trivial rfl underlying23 rfl (hsl) ?_;refine oV ?_;refine oN (tC (cB ?_));refine qt (ι := Nat × List Nat × Value × Hp) [1,34,35] (.cons rfl (.cons rfl (.cons rfl .nil))) (fun x => p.lets.length - x.1) (fun x E0 => (4,x.2.2.1) :: (36,.int .i64 (x.1 : Int)) :: E0) (fun x => St w [] x.2.2.2 [.row x.2.2.1 3 1 x.2.1.length (nvs x.2.1),.box b1 (.cells #[vi,vl,vo,va] 26 (0,0))]) (fun x => x.1 ≤ p.lets.length ∧ tGo p.all p.lets [] = tGo p.all (p.lets.drop x.1) x.2.1 ∧ x.2.1.length ≤ p.all.length ∧ Ext w.heap.size I x.2.2.2 ∧ ∀ k ∈ x.2.1,k ≤ 400) ((0,[],.slice none 0 0,I)) (sC rfl (sC rfl (sC rfl (sC rfl (sC rfl sN))))) (fun _ h => (h.nilRow _ _).sort (by repeat constructor)) (⟨Nat.zero_le _,rfl,Nat.zero_le _,Ext.refl _ _,fun k hk => by cases hk⟩) ?_;rintro ⟨i,out,uo,I1⟩ ⟨hi,hF,hol,hx1,h400⟩
 try dsimp only
 simp only at hi hF hol hx1 h400
 refine sR ?_;refine oV ?_;refine oN (tC (cS ?_));refine cC rfl (fun h2 => ?_) (fun h2 => ?_)
 ·
  have f2 := h2;try simp only [bl] at f2
  obtain ⟨c,hc⟩ : ∃ c,p.lets[i]? = some c := ⟨p.lets[i]'(by omega),List.getElem?_eq_getElem (by omega)⟩
  rw [q0c hc] at hF
  refine cK (tC (cS (cB (sR ?_))));refine vk trivial rfl underlying23 sizeOf39 rfl (hsl.le hx1.le) rfl (by omega) ?_;refine jz trivial rfl isAgg39 sizeOf39 rfl rfl (qcw (hsl.le hx1.le) hc) ?_;refine qq trivial rfl zeroValue39 rfl (fun b6 => ?_);refine oS sizeOf39 ?_;refine nU ?_;refine oF 0 underlying39 sizeOf9 ?_;refine oL isAgg9 ?_;refine oQ call18 rfl (qk7 _) ?_;refine oV ?_;refine' oZ (fun hb44 => ?_) ?_;rotate_left
  ·
   have fb44 := hb44
   try simp only [bl] at fb44
   refine gF hb44 1 underlying39 sizeOf3 ?_;refine gL hb44 isAgg3 ?_;refine gV hb44 ?_;refine yw (wS rfl rfl hb44) rfl underlying52 rfl (by repeat constructor) ?_;refine gV hb44 ?_;refine oN ?_;exact qa rfl
  refine' oZ (fun hb51 => ?_) ?_;rotate_left
  ·
   have fb51 := hb51
   try simp only [bl] at fb51
   refine gF hb51 1 underlying39 sizeOf3 ?_;refine gL hb51 isAgg3 ?_;refine gF hb51 3 underlying26 sizeOf24 ?_;refine gL hb51 isAgg24 ?_;refine qu (wS rfl rfl hb51) rfl underlying24 rfl (hsa.le hx1.le) ?_;refine gV hb51 ?_;refine oN ?_;exact qa rfl
  refine nT ?_;refine cC rfl (fun h3 => ?_) (fun h3 => ?_)
  ·
   have f3 := h3;try simp only [bl] at f3
   have hno : tZ p = none := by
     rw [hgo,hF,if_neg]
     · rfl
     · rintro ⟨c1, c2, c3⟩
       rw [c1] at h3
       simp at h3
       omega
   refine sR ?_;iterate 2 refine oV ?_
   refine oN (tC (cT (tR (qb (tR (tR (qb (tR ?_))))))));refine ret2 rfl rfl rfl ?_;exact leaf hx1 (List.nil_sublist _) (qdr hno)
  have f3 := h3;try simp only [bl] at f3
  have hg3 : vt c.name = true ∧ (out.length : Int) ≤ c.root ∧ c.root < p.all.length := by
    simp only [Bool.or_eq_false_iff,Bool.not_eq_false',decide_eq_false_iff_not] at h3
    exact ⟨h3.1.1,by omega,by omega⟩
  rw [if_pos hg3] at hF
  have hcut := (hsa.le hx1.le).cut (lo := ((out.length : Nat) : Int).toNat) (hi := (c.root + 1).toNat) (by omega) (by omega)
  have hseg : ((nds ns).take (c.root + 1).toNat).drop ((out.length : Nat) : Int).toNat = nds ((ns.take (c.root + 1).toNat).drop out.length) := by unfold nds; rw [List.map_drop,List.map_take,Int.toNat_natCast]
  rw [hseg] at hcut
  have hsub : ∀ o ∈ (ns.take (c.root + 1).toNat).drop out.length,o ∈ ns := fun o ho => List.mem_of_mem_take (List.mem_of_mem_drop ho)
  have hmap : ((ns.take (c.root + 1).toNat).drop out.length).map qd.c = (p.all.take (c.root + 1).toNat).drop out.length := by rw [List.map_drop,List.map_take,hp.eq]
  have hsl2 : ((ns.take (c.root + 1).toNat).drop out.length).length = (c.root + 1).toNat - out.length := by rw [List.length_drop,List.length_take]; omega
  refine kS ?_;refine oF 3 underlying26 sizeOf24 ?_;refine oL isAgg24 ?_;refine oV ?_;refine yw trivial rfl underlying52 rfl (by repeat constructor) ?_;refine oF 1 underlying39 sizeOf3 ?_;refine oL isAgg3 ?_
  (refine qh trivial rfl rfl rfl ?_ ?_; (omega))
  refine qnt trivial rfl underlying24 sizeOf37 rfl (hsa.le hx1.le) rfl rfl (by omega) ?_;refine oV ?_;refine yw trivial rfl underlying52 rfl (by repeat constructor) ?_;refine oI call96 rfl (q0b _ ((ns.take (c.root + 1).toNat).drop out.length) out.length hcut (fun o ho => (hp.ok o (hsub o ho)).le hx1.le) (fun o ho => hf o (hsub o ho)) (by omega) (by omega)) ?_;rintro _ I2 hx2 ⟨u,rfl,hhs⟩;iterate 5 refine oV ?_
  refine oN (tC (cS (cS ?_)))
  rw [hmap] at hhs ⊢
  refine cR ?_;iterate 2 refine oV ?_
  refine nT ?_;refine cC rfl (fun h4 => ?_) (fun h4 => ?_)
  ·
   have f4 := h4;try simp only [bl] at f4
   have hno : tZ p = none := by
     have hz : hZ ((p.all.take (c.root + 1).toNat).drop out.length) out.length = none := by
       cases hz : hZ ((p.all.take (c.root + 1).toNat).drop out.length) out.length with
       | none => rfl
       | some l => rw [hz] at h4; cases h4
     rw [hgo,hF,hz]; rfl
   refine sR ?_;iterate 2 refine oV ?_
   refine oN (tC (cT (tR (qb (tR (tR (qb (tR ?_))))))));refine ret2 rfl rfl rfl ?_;exact leaf (hx1.trans hx2 (Nat.le_refl _)) (List.nil_sublist _) (qdr hno)
  have f4 := h4;try simp only [bl] at f4
  obtain ⟨hl,hz⟩ : ∃ l,hZ ((p.all.take (c.root + 1).toNat).drop out.length) out.length = some l := Option.isSome_iff_exists.1 (by simpa using h4)
  have hsz := hhs _ hz
  obtain ⟨hzl,hzb⟩ := q0d hz
  rw [← hmap,List.length_map,hsl2] at hzl hzb
  rw [hz] at hF
  have hnl := qa6 hl
  refine cK (tC (cR ?_));iterate 2 refine oV ?_
  refine oE underlying52 zd (hsz) (qqx _) fun v77 => ?_;refine oV ?_;refine oN (qg (tC (cR ?_)))
  (refine qh trivial rfl rfl rfl ?_ ?_; (omega))
  refine oV ?_;refine oN ?_
  exact ql (i + 1, out ++ hl, v77, I2) (sC rfl (sC rfl (sC rfl (sC rfl (sC rfl sN))))) (fun _ h => by rw [qh5, qa6] at h; rw [List.length_append, show nvs (out ++ hl) = nvs out ++ nvs hl by simp [nvs]]; exact h.sort (by repeat constructor)) (by show p.lets.length - (i + 1) < p.lets.length - i; omega) ⟨by show i + 1 ≤ _; omega, hF, by rw [List.length_append]; show out.length + hl.length ≤ _; omega, hx1.trans hx2 (Nat.le_refl _), fun k hk => by
    rcases List.mem_append.1 hk with hk | hk
    · exact h400 k hk
    · have := hzb k hk; omega⟩
 have f2 := h2;try simp only [bl] at f2
 refine qp (qc (qc (qo rfl (tC (cS (cS ?_))))))
 have hin : i = p.lets.length := by omega
 subst hin
 rw [List.drop_length] at hF
 have hfin : tZ p = tFin p.all out := by rw [hgo,hF]; rfl
 refine cR ?_;refine oV ?_;refine yw trivial rfl underlying52 rfl (by repeat constructor) ?_;refine oV ?_;refine oN (tC (cB ?_));refine qt (ι := Nat) [1,4,79,80] (.cons rfl (.cons rfl (.cons rfl (.cons rfl .nil)))) (fun x => out.length - x) (fun x E0 => (81,.int .i64 (x : Int)) :: E0) (fun x => St w [] I1 [.row uo 3 1 out.length (nvs out),.box b1 (.cells #[vi,vl,vo,va] 26 (0,0))]) (fun x => x ≤ out.length ∧ ∀ j k,j < x → out[j]? = some k → k ≤ 60) (0) (sC rfl (sC rfl (sC rfl (sC rfl (sC rfl sN))))) (fun _ h => h) (⟨Nat.zero_le _,fun j k hj => absurd hj (Nat.not_lt_zero _)⟩) ?_;rintro j ⟨hj,hlow⟩
 try dsimp only
 refine sR ?_;refine oV ?_;refine oN (tC (cS ?_));refine cC rfl (fun h5 => ?_) (fun h5 => ?_)
 ·
  have f5 := h5;try simp only [bl] at f5
  obtain ⟨k,hk⟩ : ∃ k,out[j]? = some k := ⟨out[j]'(by omega),List.getElem?_eq_getElem (by omega)⟩
  have hkd : out.getD j 0 = k := by rw [List.getD_eq_getElem?_getD,hk]; rfl
  refine cK (tC (cS (cB (sR ?_))));refine zv trivial rfl underlying52 sizeOf3 rfl (by repeat constructor) rfl (by omega) ?_;refine j0 trivial rfl isAgg3 (by repeat constructor) rfl (by rw [show ((j : Nat) : Int).toNat * 1 = j by omega]; exact qbr (by omega)) ?_;refine oV ?_;refine nS ?_;iterate 2 refine oV ?_
  refine nT ?_;refine cC rfl (fun h6 => ?_) (fun h6 => ?_)
  ·
   have f6 := h6;try simp only [bl] at f6
   have hno : tZ p = none := by
     rw [hfin]
     unfold tFin
     rw [if_neg]
     rintro ⟨hh,_⟩
     have := hh k (List.mem_of_getElem? hk)
     omega
   refine sR ?_;iterate 2 refine oV ?_
   refine oN (tC (cT (qb (tR (tR (qb (tR ?_)))))));refine ret2 rfl rfl rfl ?_;exact leaf hx1 (List.nil_sublist _) (qdr hno)
  have f6 := h6;try simp only [bl] at f6
  refine cK (qg (tC (cR ?_)))
  (refine qh trivial rfl rfl rfl ?_ ?_; (omega))
  refine oV ?_;refine oN ?_
  exact ql (j + 1) (sC rfl (sC rfl (sC rfl (sC rfl (sC rfl sN))))) (fun _ h => h.sort (by repeat constructor)) (by show out.length - (j + 1) < out.length - j; omega) ⟨by show j + 1 ≤ _; omega, fun j' k' hj' hk' => by
    have hj2 : j' < j + 1 := hj'
    rcases (by omega : j' < j ∨ j' = j) with e | e
    · exact hlow j' k' e hk'
    · subst e
      rw [hk] at hk'
      rw [← Option.some.inj hk']
      omega⟩
 have f5 := h5;try simp only [bl] at f5
 refine qp (qc (qc (qo rfl (tC (cS ?_)))));refine jf (by kernel_rfl) (by kernel_rfl) (fun _ h => h.drawn) ?_;iterate 2 refine oV ?_
 refine yw trivial rfl underlying52 rfl (by repeat constructor) ?_;refine oF 3 underlying26 sizeOf24 ?_;refine oL isAgg24 ?_;refine qu trivial rfl underlying24 rfl (hsa.le hx1.le) ?_;iterate 3 refine oV ?_
 refine nE ?_;refine ret2 rfl rfl rfl ?_
 (have hjo : j = out.length := by omega
  subst hjo
  have hall : ∀ k ∈ out, k ≤ 60 := fun k hk => by
    obtain ⟨j',hj',rfl⟩ := List.getElem_of_mem hk
    exact hlow j' _ hj' (List.getElem?_eq_getElem hj')
  have hz : tZ p = if out.length = p.all.length then some out else none := by
    rw [hfin]
    unfold tFin
    by_cases he : out.length = p.all.length
    · rw [if_pos ⟨hall,he⟩,if_pos he]
    · rw [if_neg (fun hh => he hh.2),if_neg he]
  exact fun w' hw' => qji (e := 3) (size := 1) (nn := out.length) (u := uo) (xss := nss out) hx1 (qa6 _) (qf7 _) (by unfold maxLen; omega) (fun I' hl hs' => qq0 hz (by rw [Bool.eq_iff_iff]; simp; omega) hs') w' (by rw [qh5]; exact hw'))
theorem qq1 (vi vl vo va : Value) (p : qv) (ns : List qd) {I : Hp} (hp : yi I vi vl vo va p ns) (hf : ∀ o ∈ ns, o.c.few 2000000) :
   Fun prog 26 [.agg #[vi,vl,vo,va]] I [] (fun v _ _ => v = .bool (tZ p).isSome) := by
 have hsi := hp.si
 have hsl := hp.sl
 have hso := hp.so
 have hsa := hp.sa
 intro w hw
 refine qn _ func26 rfl ntmps26 rfl ?_ hw;refine sR ?_;refine vh trivial rfl rfl rfl (fun b1 => ?_);refine oV ?_;refine nS ?_;refine oA isAgg26 sizeOf26 ?_;refine oI call56 rfl (q0e vi vl vo va p ns hp hf) ?_;rintro _ I2 hx2 ⟨u,rfl,hhs⟩;iterate 5 refine oV ?_
 refine nS ?_;iterate 2 refine oV ?_
 refine nE ?_;refine ret1 rfl rfl ?_;exact leaf hx2 (List.nil_sublist _) rfl
theorem qds {f : FuncId} {vs : List Value} {I : Hp} {B : List Tw.Item} {R R' : Value → Hp → List Tw.Item → Prop} (h : Fun prog f vs I B R) (hr : ∀ v I' B', R v I' B' → R' v I' B') : Fun prog f vs I B R' := fun w hw =>
 (h w hw).mono fun v w' ⟨I',B',h1,h2,h3⟩ => ⟨I',B',h1,h2,hr v I' B' h3⟩
theorem q0f (r : Int) (h : 48 ≤ r ∧ r ≤ 57) : yp prog 234 [.int .i32 r] (.tuple #[.int .u32 (r - 48),.bool true]) := by
 intro w
 refine qn _ func234 rfl ntmps234 rfl ?_ (S := fun w1 => w1 = w) rfl;refine sR ?_;iterate 2 refine oV ?_
 refine nS ?_;iterate 2 refine oV ?_
 rw [IntWalk.i32_in _ (by omega)]
 refine ya trivial rfl underlying21 underlying134 rfl (by rw [IntWalk.u32_in _ (by omega)]) ?_;iterate 2 refine oV ?_
 refine' oY (fun hb9 => ?_) ?_;rotate_left
 ·
  iterate 2 refine gV hb9 ?_
  refine oN ?_;exact qa rfl
 iterate 2 refine oV ?_
 refine nE ?_;refine ret2 rfl rfl rfl ?_;refine fun _ hw => ⟨?_,hw⟩; rw [decide_eq_true (show r ≥ 48 by omega),decide_eq_true (show r ≤ 57 by omega)]; rfl
theorem q0g {s : ByteArray} {i : Nat} (h : i < s.size) : decN (s.toList.take (i + 1)) = 10 * decN (s.toList.take i) + ((s.get! i).toNat - 48) := by
 rw [List.take_add_one,qel h]
 exact qka _ _
theorem qf8 {n : Nat} (h : n < 10 ^ 40) : (natW n).length ≤ 5 := qa1 (Nat.lt_of_lt_of_le h (by decide))
theorem qld {s : ByteArray} (h : jm s = true) (i : Nat) : decN (s.toList.take i) < 10 ^ 40 := by
 obtain ⟨h1,h2,h3,_⟩ := ju h
 have hm := qf1 h1
 refine Nat.lt_of_lt_of_le (qkb fun b hb => hm b (List.mem_of_mem_take hb)) (Nat.pow_le_pow_right (by decide) ?_)
 rw [List.length_take,qbp]
 omega
theorem qq2 (s : ByteArray) {I : Hp} (hz : jm s = true) : Fun prog 225 [.string s] I [] (fun v I' _ => ∃ u,v = .tuple #[u,.int .i64 0] ∧ Ws I' u (natW (decN s.toList))) := by
 obtain ⟨g1,g2,g3,g4⟩ := ju hz
 have hf : (s.toList == (ByteArray.mk #[]).toList) = false := by
   rw [beq_eq_false_iff_ne]
   intro e
   have := qbp s
   rw [e] at this
   rw [ByteArray.toList_eq] at this
   change 0 = s.size at this
   omega
 intro w hw
 refine qn _ func225 rfl ntmps225 rfl ?_ hw;refine sR ?_;iterate 2 refine oV ?_
 refine nU ?_;refine oV ?_;refine yj trivial rfl underlying9 rfl ?_;refine oV ?_;refine nT ?_;refine cC rfl (fun h1 => ?_) (fun h1 => ?_)
 ·
  have f1 := h1;try simp only [bl] at f1
  exfalso; omega
 have f1 := h1;try simp only [bl] at f1
 refine cK (tC (cS (sR ?_)));iterate 2 refine oV ?_
 refine' oZ (fun hb14 => ?_) ?_;rotate_left
 ·
  have fb14 := hb14
  try simp only [bl] at fb14
  refine gV hb14 ?_;refine qag (wS rfl rfl hb14) rfl underlying9 rfl rfl (by omega) ?_;refine gV hb14 ?_;refine' qbc (wS rfl rfl hb14) (wS rfl rfl hb14) rfl rfl rfl rfl rfl rfl rfl rfl (fun hb18 => ?_) ?_;rotate_left
  ·
   have fb18 := hb18
   try simp only [bl] at fb18
   refine gV hb18 ?_;refine yj (wS rfl rfl hb18) rfl underlying9 rfl ?_;refine gV hb18 ?_;refine oN ?_;exact qa rfl
  refine oN ?_;exact qa rfl
 refine nT ?_;refine cC rfl (fun h2 => ?_) (fun h2 => ?_)
 ·
  have f2 := h2;try simp only [bl] at f2
  exfalso
  rw [hf,Bool.false_or] at h2
  simp at h2
  rcases g4 with g4 | g4 <;> omega
 have f2 := h2;try simp only [bl] at f2
 refine kS ?_;refine oV ?_;refine nU ?_;refine oV ?_;refine qfi trivial rfl underlying9 rfl (fun b25 => ?_);refine oN (tC (cB ?_));refine qt (ι := Nat × Value × Hp) [25] (.cons rfl .nil) (fun x => s.size - x.1) (fun x E0 => (4,x.2.1) :: E0) (fun x => St w [] x.2.2 [.box b25 (.stringIter s x.1)]) (fun x => x.1 ≤ s.size ∧ Ws x.2.2 x.2.1 (natW (decN (s.toList.take x.1))) ∧ Ext w.heap.size I x.2.2) ((0,.slice none 0 0,I)) (sC rfl (sC rfl sN)) (fun _ h => h) (⟨Nat.zero_le _,by rw [List.take_zero]; exact (by rw [show decN [] = 0 from rfl,yg]; exact Ws.nil _),Ext.refl _ _⟩) ?_;rintro ⟨i,u,I1⟩ ⟨hle,hu,hx1⟩
 try dsimp only
 simp only at hle hu hx1
 refine cS ?_
 rcases Nat.lt_or_ge i s.size with hp | hp
 ·
  have hb := g1 i hp
  have hdec : Utf8.decode s i = ((s.get! i).toNat,1) := Go.Tw.decode_ascii (by omega)
  obtain ⟨c,hc1,hc2,hc3⟩ : ∃ c : Nat,c < 4294967296 ∧ (((Utf8.decode s i).1 : Nat) : Int) - 48 = (c : Int) ∧ c = (s.get! i).toNat - 48 := ⟨_,by omega,by rw [hdec]; show ((s.get! i).toNat : Int) - 48 = _; omega,rfl⟩
  refine cR ?_;refine qfj trivial rfl rfl (by repeat constructor) hp ?_;refine oV ?_;refine oN (tC (cS ?_));refine zp rfl rfl ?_;refine cK (tC (cB (sR ?_)));iterate 2 refine oV ?_
  refine nS ?_;refine oV ?_;refine oP trivial rfl call234 rfl (q0f _ (by rw [hdec]; show 48 ≤ ((s.get! i).toNat : Int) ∧ ((s.get! i).toNat : Int) ≤ 57; omega)) ?_;iterate 5 refine oV ?_
  refine nU ?_;iterate 2 refine oV ?_
  refine nT ?_;refine qaf rfl (by rfl) ?_;refine cK (tC (cR ?_))
  rw [hc2]
  iterate 2 refine oV ?_
  refine oI call235 rfl (qjv _ _ 10 c hu (by have := qf8 (qld hz i); omega) (by decide) hc1) ?_;rintro v38 I2 hx2 hs2;refine oV ?_;refine oN (qg ?_);exact ql (i + 1,v38,I2) (sC rfl (sC rfl sN)) (fun _ h => by rw [hdec] at h; exact h.sort (by repeat constructor)) (by show s.size - (i + 1) < s.size - i; omega) ⟨by show i + 1 ≤ s.size; omega,by rw [q0g hp,Nat.mul_comm,← hc3]; rw [qk] at hs2; exact hs2,hx1.trans hx2 (Nat.le_refl _)⟩
 refine cR ?_;refine qfk trivial rfl rfl (by repeat constructor) hp ?_;refine oV ?_;refine oN (tC (cS ?_));refine qaf rfl rfl ?_;refine qp (qc (qc (qo rfl (tC (sR ?_)))));iterate 3 refine oV ?_
 refine nE ?_;refine ret2 rfl rfl rfl ?_;refine leaf hx1 (List.nil_sublist _) ⟨_,rfl,?_⟩
 rw [List.take_of_length_le (by rw [qbp]; omega)] at hu
 exact hu
theorem q0h (s : ByteArray) {I : Hp} (hs : 1 ≤ s.size) (h : (s.get! 0).toNat ≠ 45) : Fun prog 166 [.string s,.string ⟨#[45]⟩] I [] (fun v _ _ => v = .tuple #[.string s,.bool false]) := by
 refine qhb fun w hw => ?_;refine (Tryz.strings_CutPrefix s ⟨#[45]⟩ w).mono ?_;rintro e w' ⟨rfl,rfl⟩
 have hl := qek s 0 (by omega)
 rw [List.drop_zero] at hl
 have hp : Lib.hasPrefix s.data.toList (ByteArray.mk #[45]).data.toList = false := by
   rw [hl]
   show (List.isPrefixOf [45] _) = false
   simp only [List.isPrefixOf,Bool.and_true,beq_eq_false_iff_ne]
   intro e
   exact h (by rw [← e]; rfl)
 refine ⟨_,rfl,?_,⟨rfl,rfl,rfl,Nat.le_refl _,fun _ _ => rfl⟩⟩
 unfold Lib.trimPrefix
 rw [hp]
 rfl
theorem q0i (s : ByteArray) {I : Hp} (hz : jm s = true) : Fun prog 224 [.string s] I [] (fun v I' _ => ∃ u,v = .tuple #[.agg #[.bool false,u],.int .i64 0] ∧ Ws I' u (natW (decN s.toList))) := by
 obtain ⟨g1,g2,g3,g4⟩ := ju hz
 have g5 := g1 0 (by omega)
 intro w hw
 refine qn _ func224 rfl ntmps224 rfl ?_ hw;refine sR ?_;refine qq trivial rfl zeroValue132 rfl (fun b2 => ?_);refine oV ?_;refine nS ?_;refine oV ?_;refine oQ call166 rfl (q0h _ g2 (by omega)) ?_;iterate 5 refine oV ?_
 refine nS ?_;refine oV ?_;refine oI call225 rfl (qq2 s hz) ?_;rintro _ I1 hx1 ⟨u,rfl,hu⟩;iterate 5 refine oV ?_
 refine nU ?_;iterate 2 refine oV ?_
 refine nT ?_;refine qaf rfl (by rfl) ?_;refine kS ?_;iterate 2 refine oV ?_
 refine oI call182 rfl (qx1 false u _ hu (by have := qf8 (qld hz s.size); rw [List.take_of_length_le (by rw [qbp]; omega)] at this; omega)) ?_;rintro v24 I2 hx2 ⟨vm,rfl,hvm⟩;refine oS sizeOf132 ?_;refine oV ?_;refine nE ?_;refine retR rfl (.agg isAgg132 sizeOf132 rfl (by repeat constructor) rfl (.tmp rfl .nil)) ?_;refine leaf (hx1.trans hx2 (Nat.le_refl _)) (List.nil_sublist _) ⟨vm,?_,?_⟩
 · rw [decide_eq_false]
   · rfl
   · show ¬ ((val (natW (decN s.toList)) : Nat) : Int) < 0; omega
 · rw [qk] at hvm; exact hvm
theorem qq3 (n d : Nat) (va vb : Value) {I : Hp} (ha : Ws I va (natW n)) (hb : Ws I vb (natW d)) (hs : (natW n).length ≤ 2000000) (hs2 : (natW d).length ≤ 2000000) (hd : d ≠ 0) : Fun prog 226 [.agg #[.bool false,va],.agg #[.bool false,vb]] I [] (fun v I' _ => ∃ a b,v = .tuple #[.agg #[.bool (decide ((mkRat (n : Int) d).num < 0)),a,b],.int .i64 0] ∧ Ws I' a (natW (mkRat (n : Int) d).num.natAbs) ∧ Ws I' b (natW (mkRat (n : Int) d).den)) := by
 have h := qx4 (n : Int) (d : Int) va vb (I := I) ha hb hs hs2
 rw [decide_eq_false (show ¬ (n : Int) < 0 by omega),decide_eq_false (show ¬ (d : Int) < 0 by omega)] at h
 refine qds h fun v I' B' hr => ?_
 obtain ⟨s,x,y,X,Y,e1,e2,e3,e4⟩ := hr
 have hd' : ¬ (d : Int) = 0 := by omega
 obtain ⟨rfl,rfl,rfl⟩ := e4 hd'
 rw [if_neg hd'] at e1
 exact ⟨x,y,e1,e2,e3⟩
theorem q0j (s : ByteArray) {I : Hp} (hM : Mx I) (hz : numZ s = true) : Fun prog 215 [.string s] I [] (fun v I' _ => ∃ a b,v = .tuple #[.agg #[.bool (decide ((numQ s).num < 0)),a,b],.int .i64 0] ∧ Ws I' a (natW (numQ s).num.natAbs) ∧ Ws I' b (natW (numQ s).den)) := by
 have hsz : s.size ≤ 81 ∧ jm (s.extract 0 (cutZ s)) = true := by
   have hle := qbo s
   unfold numZ at hz
   split at hz
   · rename_i hc
     obtain ⟨_,_,k,_⟩ := ju hz
     rw [hc,qhr]
     exact ⟨by omega,hz⟩
   · simp only [Bool.and_eq_true] at hz
     obtain ⟨_,_,k,_⟩ := ju hz.1.1
     obtain ⟨_,_,k2,_⟩ := ju hz.1.2
     rw [ByteArray.size_extract] at k k2
     exact ⟨by omega,hz.1.1⟩
 have htail : cutZ s ≠ s.size → jm (s.extract (cutZ s + 1) s.size) = true ∧ decN (s.extract (cutZ s + 1) s.size).toList ≠ 0 := fun hc => by
   unfold numZ at hz
   rw [if_neg hc] at hz
   simp only [Bool.and_eq_true,Bool.not_eq_true'] at hz
   exact ⟨hz.1.2,qpu hz.1.2 hz.2⟩
 have hfew : ∀ {u : ByteArray}, jm u = true → (natW (decN u.toList)).length ≤ 2000000 := fun {u} hu => by
   have := qf8 (qld hu u.size)
   rw [List.take_of_length_le (by rw [qbp]; omega)] at this
   omega
 have hhead := hfew hsz.2
 have hcl := qbo s
 intro w hw
 refine qn _ func215 rfl ntmps215 rfl ?_ hw;refine sR ?_;refine qq trivial rfl zeroValue35 rfl (fun b2 => ?_);refine oV ?_;refine nS ?_;refine oV ?_;refine oQ call167 rfl (qkg s hM (by omega)) ?_;iterate 7 refine oV ?_
 refine nS ?_;refine oV ?_;refine oI call224 rfl (q0i (s.extract 0 (cutZ s)) hsz.2) ?_;rintro _ I1 hx1 ⟨u,rfl,hu⟩;iterate 3 refine oV ?_
 refine qq trivial rfl zeroValue132 rfl (fun b7 => ?_);refine oS sizeOf132 ?_;refine oV ?_;refine nU ?_;iterate 2 refine oV ?_
 refine nT ?_;refine qaf rfl (by rfl) ?_;refine kS ?_;refine oI call129 rfl (qhf 1 (by decide)) ?_;rintro v25 I2 hx2 hs2;refine oV ?_;refine nU ?_;refine oV ?_;refine nT ?_;refine cC rfl (fun h2 => ?_) (fun h2 => ?_)
 ·
  have f2 := h2;try simp only [bl] at f2
  have hc : cutZ s ≠ s.size := by omega
  obtain ⟨hz2,hz3⟩ := htail hc
  refine cR ?_;refine oV ?_;refine oI call225 rfl (qq2 _ hz2) ?_;rintro _ I3 hx3 ⟨u3,rfl,hu3⟩;iterate 5 refine oV ?_
  refine nU ?_;iterate 2 refine oV ?_
  refine nT ?_;refine qaf rfl (by rfl) ?_;refine kS ?_;refine oA isAgg132 sizeOf132 ?_;refine oV ?_;refine qw trivial rfl (qdc) rfl (.cons rfl (by exact (Ws.cells1 (by assumption)).1) (by rfl) (by repeat constructor) .nil) ?_;refine oI call226 rfl (by exact qq3 _ _ _ _ (hu.le (hx2.le.trans hx3.le)) hu3 hhead (hfew hz2) hz3) ?_;rintro _ I4 hx4 ⟨a,b,rfl,ha,hb⟩;iterate 2 refine oV ?_
  refine oS sizeOf35 ?_;refine oV ?_;refine nE ?_;refine retR rfl (.agg isAgg35 sizeOf35 rfl (by repeat constructor) rfl (.tmp rfl .nil)) ?_
  (refine leaf (hx1.trans (hx2.trans (hx3.trans hx4 (Nat.le_refl _)) (Nat.le_refl _)) (Nat.le_refl _)) (List.nil_sublist _) ⟨a,b,?_,?_,?_⟩ <;> unfold numQ <;> rw [if_neg hc] <;> first | rfl | exact ha | exact hb)
 have f2 := h2;try simp only [bl] at f2
 have hc : cutZ s = s.size := by omega
 refine cK (tC (cS (sR ?_)));iterate 2 refine oV ?_
 refine nT ?_;refine qaf rfl (by rfl) ?_;refine kS ?_;refine oA isAgg132 sizeOf132 ?_;refine oV ?_;refine qw trivial rfl (qdc) rfl (.cons rfl (by exact (Ws.cells1 (by assumption)).1) (by rfl) (by repeat constructor) .nil) ?_;refine oI call226 rfl (by (exact qq3 _ 1 _ _ (hu.le hx2.le) hs2 hhead (by rw [show natW 1 = [1] by rw [qbi (by decide)]; simp [yg]]; decide) (by decide))) ?_;rintro _ I4 hx4 ⟨a,b,rfl,ha,hb⟩;iterate 2 refine oV ?_
 refine oS sizeOf35 ?_;refine oV ?_;refine nE ?_;refine retR rfl (.agg isAgg35 sizeOf35 rfl (by repeat constructor) rfl (.tmp rfl .nil)) ?_
 (refine leaf (hx1.trans (hx2.trans hx4 (Nat.le_refl _)) (Nat.le_refl _)) (List.nil_sublist _) ⟨a,b,?_,?_,?_⟩ <;> unfold numQ <;> rw [if_pos hc] <;> first | rfl | exact ha | exact hb)
end Go.Proofs.YtfcmhcaggdakbaaGreatDoor
