/-
  ValueDenotes, part 6: the texts Stk, Stk2, Made11, Lower, SameG, LowerR, Law15d, Open15d as one.
-/
import Derived.Test.YtoincnplajnpnaaGreatQValueDenotesE
open Go.Proofs.Tryz
set_option linter.unusedVariables false
set_option linter.unusedSimpArgs false
set_option linter.unnecessarySimpa false
set_option maxHeartbeats 1000000
namespace Go.Tw
open Go Go.RowKit
section
variable {P : Program} {Q : Exit → Act → World → Prop} {n : Nat} {D : List Deferred} {E : Env} {S S' : World → Prop} {ops : Array Oper} {rest : List Oper} {d : Nat} {op : Op} {ty : TypeId} {pos : String} {aft : Array Edge} {g : Option (Nat × Bool)} {v : Value} {w0 : World} {X : List Nat} {I : Hp} {B : List Item}
theorem qb7 {qm : Bool} {x hx : Operand} {t e T : TypeId} {sz nn : Nat} {u : Value} {xs : List Value} {kd : IntKind} {h : Int} (hg : qi ops E g) (hd : Nat.blt d n = true) (hu : P.underlying t = some (.slice e)) (hsz : ∀ w, (sizeOf e).run P w = .ok sz w) (hxv : ev E x = some u) (hh : ev E hx = some (.int kd h))
   (hB : Item.row u T sz nn xs ∈ B) (hb : 0 ≤ h ∧ h ≤ nn)
   (k : TL qm P ops Q rest n D ((d,jp u 0 h.toNat sz) :: E) (St w0 X I B)) : TL qm P ops Q (⟨some d,.slice t x none (some hx) none,ty,pos,aft,g⟩ :: rest) n D E (St w0 X I B) := by
 have hel : P.underlying t = some (.slice (P.elem t)) := by rw [hu]; simp [Program.elem,hu]
 have hel2 : P.elem t = e := by simp [Program.elem,hu]
 refine o_rd hg hd (v := jp u 0 h.toNat sz) (fun a w ha hw d pos aft g => ⟨w,?_,rfl⟩) k
 have hown : w.ownsRow 0 T sz u nn xs := hw.own _ hB
 have hcap : ∃ A cap,u = .slice A nn cap ∧ nn ≤ cap := by
   rcases hown.2 with ⟨rfl,h0⟩ | ⟨gg,cap,cur,rfl,_,_,hc,_⟩
   · subst h0; exact ⟨none,0,rfl,Nat.le_refl _⟩
   · exact ⟨_,cap,rfl,hc⟩
 obtain ⟨A,cap,hv,hc⟩ := hcap
 have hx' : a.eval x = .slice A nn cap := by rw [ha.ev hxv]; exact hv
 have hr := run_slice_h (P := P) w t A nn cap hel kd h hb.1 (by omega)
 rw [hel2,hsz] at hr
 have hsa : ∀ w,(Instr.sliceAt t (.slice A nn cap) none (some (.int kd h)) none).run P w = (Instr.slice t (.slice A nn cap) none (some (.int kd h)) none).run P w := fun w => run_sliceAt_slice w t _ _ _ _ hel
 subst hv
 simp only [execOp,Option.map,hx',ha.ev hh,Sem.run_bind,hsa,hr,Result.andThen_ok,Sem.run_pure,jp]
theorem js {sl x : Operand} {t e T2 : TypeId} {size bytes nn n2 : Nat} {u u2 : Value} {xs ys : List Value} {m : Nat} {B' : Value → List Item} (hg : qi ops E g) (hd : Nat.blt d n = true) (hu : P.underlying t = some (.slice e)) (he : zo P e size bytes) (hpos : 0 < size)
   (hsl : ev E sl = some u) (hx : ev E x = some (jp u2 0 m size)) (hput : ∀ v',Put B (.row u e size nn xs) (B' v') (.row v' e size (nn + m) (xs ++ ys.take (m * size)))) (hB : Item.row u2 T2 size n2 ys ∈ B) (hm : m ≤ n2) (h1 : jo ys = true)
   (hmax : nn + m ≤ maxLen) (hby : (nn + m) * bytes ≤ 140737488355328)
   (k : ∀ v',TL false P ops Q rest n D ((d,v') :: E) (St w0 X I (B' v'))) : TL false P ops Q (⟨some d,.call { callee := .builtin .append,args := #[sl,x],argTypes := #[t,t] },ty,pos,aft,g⟩ :: rest) n D E (St w0 X I B) :=
 qas (ι := Value) (V := fun v' => v') (SX := fun v' => St w0 X I (B' v')) (F := fun _ => True) hg hd
   (fun a w ha hw d pos aft g => by
     obtain ⟨i,z,h2,h3,h4,h5,h6⟩ := he
     have hown : w.ownsRow 0 e size u nn xs := hw.own _ (hput u).mem
     have hown2 : w.ownsRow 0 T2 size u2 n2 ys := hw.own _ hB
     rcases hown2.2 with ⟨rfl,h0⟩ | ⟨gg,cap,cur,rfl,q1,q2,q3,q4,q5,q6⟩
     · subst h0
       have e0 : m = 0 := by omega
       subst e0
       have hr := run_append_owned_none (P := P) w 0 t ty e i size hu h2 u nn xs hown
       refine ⟨w,u,?_,hw.turn (hput u) (But.refl _ _) (by show w.ownsRow 0 e size u _ _; simpa using hown) (fun b hb => .inl hb),trivial⟩
       have hx0 : a.eval x = .slice none 0 0 := ha.ev hx
       simp only [execOp,resolve,List.map_toArray,List.map_cons,List.map_nil,ha.ev hsl,hx0,Sem.run_bind,Sem.run_pure,Result.andThen_ok,invoke,builtin,hr]
     · have hxv : a.eval x = .slice (some ⟨gg,0,none⟩) m cap := by
         rw [ha.ev hx]
         simp only [jp,sliced]
         by_cases hc0 : cap = 0
         · rw [if_pos hc0]; rfl
         · rw [if_neg hc0,Option.map_some,add_none]; simp
       have hlen : (ys.take (m * size)).length = m * size := by
         rw [List.length_take,hown2.1]
         exact Nat.min_eq_left (Nat.mul_le_mul_right _ hm)
       have hnews : ∀ j y, (ys.take (m * size))[j]? = some y → w.cell? ((⟨gg, 0, none⟩ : Addr).add j) = some y := fun j y hj => by
         rw [add_none,Nat.zero_add]
         rw [List.getElem?_take] at hj
         split at hj
         · exact qgt hown2 hj
         · cases hj
       have hp1 : ∀ y ∈ ys.take (m * size),y.oneCell' = true := fun y hy => qd0 h1 y (List.mem_of_mem_take hy)
       obtain ⟨v',w',hr,hown',hgr,_,hkey⟩ := run_append_own_at (P := P) w 0 t ty e i z size bytes hu h2 h3 h4 h5 h6 hpos u nn xs hown ⟨gg,0,none⟩ m cap (ys.take (m * size)) hlen hnews hp1 hmax hby (Nat.zero_le _)
       refine ⟨w',v',?_,hw.turn (hput v') (But.of_grown hgr) hown' (fun k hk => ?_),trivial⟩
       · simp only [execOp,resolve,List.map_toArray,List.map_cons,List.map_nil,ha.ev hsl,hxv,Sem.run_bind,Sem.run_pure,Result.andThen_ok,invoke,builtin,hr]
       · change v'.ownBlock = some k at hk
         rcases hkey with e1 | e1
         · exact .inl (by rw [← hk,e1]; rfl)
         · rw [e1] at hk; cases hk; exact .inr (Nat.le_refl _)) (fun v' _ => k v')
end
end Go.Tw
namespace Go.Proofs.YtoincnplajnpnaaGreat
open Go Go.Tw
abbrev skB (b : Nat) (vi vl vo va u : Value) : Tw.Item := .box b (.cells #[vi,vl,vo,va,u] 59 (0,0))
abbrev opR (u : Value) (os : List Int) : Tw.Item := .row u 3 1 os.length (ics os).flatten
def ql (c : qk) (A B : Int) : qk := ⟨⟨c.c.kind,A,B,c.c.e,c.c.name,c.c.neg,c.c.n,c.c.d⟩,c.vn,c.vd⟩
structure qa9 (I : Hp) (ls : List LetC) (ns : List qk) (os : List Int) (n : Nat) : Prop where
 lets : ls.length ≤ 8
 ok : ∀ o ∈ ns,o.ok I
 few : ∀ o ∈ ns,o.c.few 3000
 sum : ns.length + os.length ≤ n
theorem qa9.le {I I' : Hp} {ls : List LetC} {ns : List qk} {os : List Int} {n m : Nat} (h : qa9 I ls ns os n) (hl : I.Le I') (hm : n ≤ m) : qa9 I' ls ns os m :=
 ⟨h.lets,fun o ho => (h.ok o ho).le hl,h.few,Nat.le_trans h.sum hm⟩
theorem qa9.put {I : Hp} {ls : List LetC} {ns : List qk} {os os' : List Int} {n m k : Nat} {c : qk} {A B : Int} (h : qa9 I ls ns os n) (hc : c.ok I) (hf : c.c.few 3000) (hl : os'.length + k = os.length + 1) (hm : n + 2 ≤ m + k) : qa9 I ls (ns ++ [ql c A B]) os' m := by
 refine ⟨h.lets,fun o ho => ?_,fun o ho => ?_,?_⟩
 · rcases List.mem_append.1 ho with ho | ho
   · exact h.ok o ho
   · rw [List.mem_singleton.1 ho]; exact hc
 · rcases List.mem_append.1 ho with ho | ho
   · exact h.few o ho
   · rw [List.mem_singleton.1 ho]; exact hf
 · have := h.sum
   rw [List.length_append,List.length_singleton]; omega
theorem jt (l : List Int) : jo (ics l).flatten = true := by
 rw [qe8]
 induction l with
 | nil => rfl
 | cons x l ih => show ((Value.int .i64 x).oneCell' && jo _) = true; rw [ih]; rfl
theorem ju (l : List Int) (k : Nat) : (ics l).flatten.take k = (ics (l.take k)).flatten := by rw [qe8,qe8,List.map_take]
theorem qs1 {l : List Int} {i : Nat} {z : Int} (h : l[i]? = some z) : (ics l).flatten[i]? = some (.int .i64 z) := by rw [qe8,List.getElem?_map,h]; rfl
theorem q2a {l : List ByteArray} {i : Nat} {z : ByteArray} (h : l[i]? = some z) : (scs l).flatten[i]? = some (.string z) := by rw [q17,List.getElem?_map,h]; rfl
theorem qfb (b : Nat) (vi vl vo va u : Value) (c : qk) (ns : List qk) (os : List Int) (k : Nat) {I : Hp} (hc : c.ok I) (hk : k ≤ os.length) (hn : ns.length ≤ 1000) (hno : os.length ≤ 1000) :
   Fun prog 35 [.pointer (some ⟨b,0,none⟩),ndV c,.int .i64 (k : Nat)] I [skB b vi vl vo va u,ndR va ns,opR u os]
   (fun v I' B' => I = I' ∧ v = .tuple #[] ∧ ∃ va' u' A Z os',B' = [skB b vi vl vo va' u',ndR va' (ns ++ [ql c A Z]),opR u' os'] ∧ os'.length + k = os.length + 1) := by
 have hc1 := hc.1.cells1
 have hc2 := hc.2.cells1
 have hl : ∀ A Z,(ns ++ [ql c A Z]).length = ns.length + 1 := fun A Z => by simp
 unfold ndV
 intro w hw
 refine j5 _ func35 rfl ntmps35 rfl ?_ hw;refine sR ?_;refine qo trivial rfl rfl rfl (fun b4 => ?_);refine nS ?_;iterate 2 refine oV ?_
 refine oF 4 underlying59 sizeOf32 ?_;refine oL isAgg32 ?_;refine yi trivial rfl underlying32 rfl (by repeat constructor) ?_;refine oV ?_
 first | (refine vy trivial rfl rfl rfl ?_ ?_; (omega)) | refine oV ?_
 refine oV ?_;refine nT ?_;refine jk (ι := Int) [0,2,4,6] (.cons rfl (.cons rfl (.cons rfl (.cons rfl .nil)))) (fun x E0 => E0) (fun x => St w (je [skB b vi vl vo va u,ndR va ns,opR u os]) I [.box b4 (.cells #[.int .i64 c.c.kind,.int .i64 x,.int .i64 c.c.b,.int .i64 c.c.e,.string c.c.name,.bool c.c.neg,c.vn,c.vd] 67 (0,0)),skB b vi vl vo va u,ndR va ns,opR u os]) (fun x => True) ?_ ?_
 ·
  refine sR ?_;iterate 2 refine oV ?_
  refine nT ?_;refine cC rfl (fun h1 => ?_) (fun h1 => ?_)
  ·
   have f1 := h1;try simp only [bl] at f1
   obtain ⟨z,hz⟩ : ∃ z,os[os.length - k]? = some z := ⟨os[os.length - k]'(by omega),List.getElem?_eq_getElem (by omega)⟩
   refine cR ?_;iterate 2 refine oV ?_
   refine oF 4 underlying59 sizeOf32 ?_;refine oL isAgg32 ?_;refine oV ?_;refine yp trivial rfl underlying32 sizeOf3 rfl (by repeat constructor) rfl (by omega) ?_;refine jl trivial rfl isAgg3 (by repeat constructor) rfl (by rw [show ((os.length : Nat) : Int) - ((k : Nat) : Int) = ((os.length - k : Nat) : Int) by omega,Int.toNat_natCast,Nat.mul_one]; exact qs1 hz) ?_;refine oF 1 underlying67 sizeOf3 ?_;refine oS sizeOf3 ?_;refine oN ?_
   first | exact meet z (sC rfl (sC rfl (sC rfl (sC rfl sN)))) (fun _ h => h.sort (by repeat constructor)) trivial | exact meet c.c.a (sC rfl (sC rfl (sC rfl (sC rfl sN)))) (fun _ h => h.sort (by repeat constructor)) trivial
  have f1 := h1;try simp only [bl] at f1
  refine cK ?_
  first | exact meet z (sC rfl (sC rfl (sC rfl (sC rfl sN)))) (fun _ h => h.sort (by repeat constructor)) trivial | exact meet c.c.a (sC rfl (sC rfl (sC rfl (sC rfl sN)))) (fun _ h => h.sort (by repeat constructor)) trivial
 rintro A hF
 try dsimp only
 refine jk (ι := Int) [0,4,6] (.cons rfl (.cons rfl (.cons rfl .nil))) (fun x E0 => E0) (fun x => St w (je [skB b vi vl vo va u,ndR va ns,opR u os]) I [.box b4 (.cells #[.int .i64 c.c.kind,.int .i64 A,.int .i64 x,.int .i64 c.c.e,.string c.c.name,.bool c.c.neg,c.vn,c.vd] 67 (0,0)),skB b vi vl vo va u,ndR va ns,opR u os]) (fun x => True) ?_ ?_
 ·
  refine sR ?_;iterate 2 refine oV ?_
  refine nT ?_;refine cC rfl (fun h2 => ?_) (fun h2 => ?_)
  ·
   have f2 := h2;try simp only [bl] at f2
   obtain ⟨y,hy⟩ : ∃ y,os[os.length - k + 1]? = some y := ⟨os[os.length - k + 1]'(by omega),List.getElem?_eq_getElem (by omega)⟩
   refine cR ?_;iterate 2 refine oV ?_
   refine oF 4 underlying59 sizeOf32 ?_;refine oL isAgg32 ?_;refine oV ?_
   first | (refine qf trivial rfl rfl rfl ?_ ?_; (omega)) | refine oV ?_
   refine yp trivial rfl underlying32 sizeOf3 rfl (by repeat constructor) rfl (by omega) ?_;refine jl trivial rfl isAgg3 (by repeat constructor) rfl (by rw [show ((os.length : Nat) : Int) - ((k : Nat) : Int) + 1 = ((os.length - k + 1 : Nat) : Int) by omega,Int.toNat_natCast,Nat.mul_one]; exact qs1 hy) ?_;refine oF 2 underlying67 sizeOf3 ?_;refine oS sizeOf3 ?_;refine oN ?_
   first | exact meet y (sC rfl (sC rfl (sC rfl sN))) (fun _ h => h.sort (by repeat constructor)) trivial | exact meet c.c.b (sC rfl (sC rfl (sC rfl sN))) (fun _ h => h.sort (by repeat constructor)) trivial
  have f2 := h2;try simp only [bl] at f2
  refine cK ?_
  first | exact meet y (sC rfl (sC rfl (sC rfl sN))) (fun _ h => h.sort (by repeat constructor)) trivial | exact meet c.c.b (sC rfl (sC rfl (sC rfl sN))) (fun _ h => h.sort (by repeat constructor)) trivial
 rintro Z hF2
 try dsimp only
 refine jk (ι := Value) [0,6] (.cons rfl (.cons rfl .nil)) (fun x E0 => E0) (fun x => St w (je [skB b vi vl vo va u,ndR va ns,opR u os]) I [skB b vi vl vo x u,ndR x (ns ++ [ql c A Z]),opR u os]) (fun x => True) ?_ ?_
 ·
  refine yb (m := 13) [.box b4 _] (by repeat constructor) (by kernel_rfl) rfl ?_;refine qT (i := 0) (qB 13 1) (Hp.Le.refl _) rfl rfl (oV qF) ?_;refine qT (i := 1) (qB 13 3) (Hp.Le.refl _) rfl rfl (oV qF) ?_;refine qT (i := 2) (qB 13 7) (Hp.Le.refl _) rfl rfl (oV qF) ?_;refine qT (i := 3) (qB 13 15) (Hp.Le.refl _) rfl rfl (oF 0 underlying59 sizeOf29 qF) ?_;refine qT (i := 4) (qB 13 31) (Hp.Le.refl _) rfl rfl (oF 3 underlying29 sizeOf27 qF) ?_;refine qT (i := 6) (qB 13 95) (Hp.Le.refl _) rfl rfl (oA isAgg67 sizeOf67 qF) ?_;refine h_go [5,7] (by kernel_rfl) rfl (TWHs.cons ?_ (TWHs.cons ?_ TWHs.nil))
  ·
   refine qP (qB 13 127) rfl ?_;refine oL isAgg27 ?_;refine qM (Hp.Le.refl _) ?_;refine qO (i := 7) (qB 13 255) rfl ?_;refine oB underlying27 sizeOf67 zeroValue67 fun b42 => ?_;refine qM (Hp.Le.refl _) ?_;refine qO (i := 8) (qB 13 511) rfl ?_;refine jb trivial rfl underlying27 (qnb) (by decide) rfl rfl (fun v' => (by repeat constructor)) (by repeat constructor) rfl (by exact qqr (c := c) hc1.2 hc2.2) (by first | omega | (unfold maxLen; omega)) (by omega) (fun v43 => ?_);refine qM (Hp.Le.refl _) ?_;refine qT (i := 9) (qB 13 1023) (Hp.Le.refl _) rfl rfl (oV qF) ?_;refine qT (i := 10) (qB 13 2047) (Hp.Le.refl _) rfl rfl (oF 0 underlying59 sizeOf29 qF) ?_;refine qT (i := 11) (qB 13 4095) (Hp.Le.refl _) rfl rfl (oF 3 underlying29 sizeOf27 qF) ?_;refine qO (i := 12) (qB 13 8191) rfl ?_;refine vq (u := v43) (by repeat constructor) (fun hcv => ?_);refine qz trivial rfl rfl (hcv).1 sizeOf27 (hcv).2 (by repeat constructor) (by exact Nat.le_of_ble_eq_true rfl) ?_;refine qM (Hp.Le.refl _) ?_;refine qn (by kernel_rfl) ?_;exact meet v43 (sC rfl (sC rfl sN)) (fun _ h => by unfold ndR; rw [hl,qqs]; exact h.sort (by repeat constructor)) trivial
  refine qP (qB 13 223) rfl ?_;refine oB underlying27 sizeOf67 zeroValue67 fun b42 => ?_;refine qM (Hp.Le.refl _) ?_;refine qO (i := 5) (qB 13 255) rfl ?_;refine oL isAgg27 ?_;refine qM (Hp.Le.refl _) ?_;refine qO (i := 8) (qB 13 511) rfl ?_;refine jb trivial rfl underlying27 (qnb) (by decide) rfl rfl (fun v' => (by repeat constructor)) (by repeat constructor) rfl (by exact qqr (c := c) hc1.2 hc2.2) (by first | omega | (unfold maxLen; omega)) (by omega) (fun v43 => ?_);refine qM (Hp.Le.refl _) ?_;refine qT (i := 9) (qB 13 1023) (Hp.Le.refl _) rfl rfl (oV qF) ?_;refine qT (i := 10) (qB 13 2047) (Hp.Le.refl _) rfl rfl (oF 0 underlying59 sizeOf29 qF) ?_;refine qT (i := 11) (qB 13 4095) (Hp.Le.refl _) rfl rfl (oF 3 underlying29 sizeOf27 qF) ?_;refine qO (i := 12) (qB 13 8191) rfl ?_;refine vq (u := v43) (by repeat constructor) (fun hcv => ?_);refine qz trivial rfl rfl (hcv).1 sizeOf27 (hcv).2 (by repeat constructor) (by exact Nat.le_of_ble_eq_true rfl) ?_;refine qM (Hp.Le.refl _) ?_;refine qn (by kernel_rfl) ?_;exact meet v43 (sC rfl (sC rfl sN)) (fun _ h => by unfold ndR; rw [hl,qqs]; exact h.sort (by repeat constructor)) trivial
 rintro v43 hF3
 try dsimp only
 have hl2 := hl A Z
 refine yb (m := 21) [opR u os,.row v43 67 8 _ _] (by repeat constructor) (by kernel_rfl) rfl ?_;refine qT (i := 0) (qB 21 1) (Hp.Le.refl _) rfl rfl (oV qF) ?_;refine qT (i := 2) (qB 21 5) (Hp.Le.refl _) rfl rfl (oV qF) ?_;refine qT (i := 3) (qB 21 13) (Hp.Le.refl _) rfl rfl (oV qF) ?_;refine qT (i := 4) (qB 21 29) (Hp.Le.refl _) rfl rfl (oF 4 underlying59 sizeOf32 qF) ?_;refine qT (i := 6) (qB 21 93) (Hp.Le.refl _) rfl rfl (oV qF) ?_;refine qT (i := 9) (qB 21 605) (Hp.Le.refl _) rfl rfl (oV qF) ?_;refine qT (i := 10) (qB 21 1629) (Hp.Le.refl _) rfl rfl (oV qF) ?_;refine qT (i := 11) (qB 21 3677) (Hp.Le.refl _) rfl rfl (oF 0 underlying59 sizeOf29 qF) ?_;refine qT (i := 12) (qB 21 7773) (Hp.Le.refl _) rfl rfl (oF 3 underlying29 sizeOf27 qF) ?_;refine h_go [1,5,13] (by kernel_rfl) rfl (TWHs.cons ?_ (TWHs.cons ?_ (TWHs.cons ?_ TWHs.nil)))
 ·
  refine qP (qB 21 7775) rfl ?_;refine qaw trivial rfl underlying32 sizeOf3 (fun v48 => ?_);refine qM (Hp.Le.refl _) ?_;refine h_go [5,13] (by kernel_rfl) rfl (TWHs.cons ?_ (TWHs.cons ?_ TWHs.nil))
  ·
   refine qP (qB 21 7807) rfl ?_;refine oL isAgg32 ?_;refine qM (Hp.Le.refl _) ?_;refine qT (i := 7) (qB 21 7935) (Hp.Le.refl _) rfl rfl (qb7 trivial rfl underlying32 sizeOf3 rfl rfl (by repeat constructor) (by omega) qF) ?_;refine h_go [8,13] (by kernel_rfl) rfl (TWHs.cons ?_ (TWHs.cons ?_ TWHs.nil))
   ·
    refine qP (qB 21 8191) rfl ?_;refine js trivial rfl underlying32 (vp) (by decide) rfl rfl (fun v' => (by repeat constructor)) (by repeat constructor) (by omega) (jt os) (by unfold maxLen; omega) (by omega) (fun v55 => ?_);refine qM (Hp.Le.refl _) ?_;refine qO (i := 13) (qB 21 16383) rfl ?_;refine oL isAgg27 ?_;refine qM (Hp.Le.refl _) ?_;refine qT (i := 14) (qB 21 32767) (Hp.Le.refl _) rfl rfl (yi trivial rfl underlying27 rfl (by repeat constructor) qF) ?_;refine' qT (i := 15) (qB 21 65535) (Hp.Le.refl _) rfl rfl ?hh0 ?kk0
    case hh0 =>
     first | (refine vy trivial rfl rfl rfl ?_ ?_; (omega)) | refine oV ?_
     exact qF
    refine qO (i := 16) (qB 21 131071) rfl ?_;refine oB underlying32 sizeOf3 zeroValue3 fun b63 => ?_;refine qM (Hp.Le.refl _) ?_;refine qO (i := 17) (qB 21 262143) rfl ?_;refine oD underlying32 vp fun v64 => ?_;refine qM (Hp.Le.refl _) ?_;refine qT (i := 18) (qB 21 524287) (Hp.Le.refl _) rfl rfl (oV qF) ?_;refine qT (i := 19) (qB 21 1048575) (Hp.Le.refl _) rfl rfl (oF 4 underlying59 sizeOf32 qF) ?_;refine qO (i := 20) (qB 21 2097151) rfl ?_;refine vq (u := v64) (by repeat constructor) (fun hcv2 => ?_);refine qz trivial rfl rfl (hcv2).1 sizeOf32 (hcv2).2 (by repeat constructor) (by exact Nat.le_of_ble_eq_true rfl) ?_;refine qM (Hp.Le.refl _) ?_;refine qn (by kernel_rfl) ?_;refine ret0 rfl ?_;refine fun w' hw' => ⟨I,[skB b vi vl vo v43 v64,ndR v43 (ns ++ [ql c A Z]),opR v64 (os.take (os.length - k) ++ [(((ns ++ [ql c A Z]).length : Nat) : Int) - 1])],?_,Ext.refl _ _,rfl,rfl,_,_,_,_,_,rfl,by rw [List.length_append,List.length_take,List.length_singleton]; omega⟩
    have e1 : (((os.length : Nat) : Int) - ((k : Nat) : Int)).toNat = os.length - k := by omega
    have e2 : (os.take (os.length - k) ++ [(((ns ++ [ql c A Z]).length : Nat) : Int) - 1]).length = 0 + (((os.length : Nat) : Int) - ((k : Nat) : Int)).toNat + 1 := by rw [List.length_append,List.length_take,List.length_singleton,e1]; omega
    have e3 : ([] ++ (ics os).flatten.take ((((os.length : Nat) : Int) - ((k : Nat) : Int)).toNat * 1)) ++ [Value.int .i64 ((((ns ++ [ql c A Z]).length : Nat) : Int) - 1)] = (ics (os.take (os.length - k) ++ [(((ns ++ [ql c A Z]).length : Nat) : Int) - 1])).flatten := by rw [List.nil_append,Nat.mul_one,ju,y6,e1]
    unfold opR
    rw [e2,← e3]
    exact hw'.sort (by repeat constructor)
   refine qP (qB 21 16127) rfl ?_;refine oL isAgg27 ?_;refine qM (Hp.Le.refl _) ?_;refine qT (i := 14) (qB 21 32511) (Hp.Le.refl _) rfl rfl (yi trivial rfl underlying27 rfl (by repeat constructor) qF) ?_;refine' qT (i := 15) (qB 21 65279) (Hp.Le.refl _) rfl rfl ?hh1 ?kk1
   case hh1 =>
    first | (refine vy trivial rfl rfl rfl ?_ ?_; (omega)) | refine oV ?_
    exact qF
   refine h_go [8,16] (by kernel_rfl) rfl (TWHs.cons ?_ (TWHs.cons ?_ TWHs.nil))
   ·
    refine qP (qB 21 65535) rfl ?_;refine js trivial rfl underlying32 (vp) (by decide) rfl rfl (fun v' => (by repeat constructor)) (by repeat constructor) (by omega) (jt os) (by unfold maxLen; omega) (by omega) (fun v55 => ?_);refine qM (Hp.Le.refl _) ?_;refine qO (i := 16) (qB 21 131071) rfl ?_;refine oB underlying32 sizeOf3 zeroValue3 fun b63 => ?_;refine qM (Hp.Le.refl _) ?_;refine qO (i := 17) (qB 21 262143) rfl ?_;refine oD underlying32 vp fun v64 => ?_;refine qM (Hp.Le.refl _) ?_;refine qT (i := 18) (qB 21 524287) (Hp.Le.refl _) rfl rfl (oV qF) ?_;refine qT (i := 19) (qB 21 1048575) (Hp.Le.refl _) rfl rfl (oF 4 underlying59 sizeOf32 qF) ?_;refine qO (i := 20) (qB 21 2097151) rfl ?_;refine vq (u := v64) (by repeat constructor) (fun hcv2 => ?_);refine qz trivial rfl rfl (hcv2).1 sizeOf32 (hcv2).2 (by repeat constructor) (by exact Nat.le_of_ble_eq_true rfl) ?_;refine qM (Hp.Le.refl _) ?_;refine qn (by kernel_rfl) ?_;refine ret0 rfl ?_;refine fun w' hw' => ⟨I,[skB b vi vl vo v43 v64,ndR v43 (ns ++ [ql c A Z]),opR v64 (os.take (os.length - k) ++ [(((ns ++ [ql c A Z]).length : Nat) : Int) - 1])],?_,Ext.refl _ _,rfl,rfl,_,_,_,_,_,rfl,by rw [List.length_append,List.length_take,List.length_singleton]; omega⟩
    have e1 : (((os.length : Nat) : Int) - ((k : Nat) : Int)).toNat = os.length - k := by omega
    have e2 : (os.take (os.length - k) ++ [(((ns ++ [ql c A Z]).length : Nat) : Int) - 1]).length = 0 + (((os.length : Nat) : Int) - ((k : Nat) : Int)).toNat + 1 := by rw [List.length_append,List.length_take,List.length_singleton,e1]; omega
    have e3 : ([] ++ (ics os).flatten.take ((((os.length : Nat) : Int) - ((k : Nat) : Int)).toNat * 1)) ++ [Value.int .i64 ((((ns ++ [ql c A Z]).length : Nat) : Int) - 1)] = (ics (os.take (os.length - k) ++ [(((ns ++ [ql c A Z]).length : Nat) : Int) - 1])).flatten := by rw [List.nil_append,Nat.mul_one,ju,y6,e1]
    unfold opR
    rw [e2,← e3]
    exact hw'.sort (by repeat constructor)
   refine qP (qB 21 130815) rfl ?_;refine oB underlying32 sizeOf3 zeroValue3 fun b63 => ?_;refine qM (Hp.Le.refl _) ?_;refine qO (i := 8) (qB 21 131071) rfl ?_;refine js trivial rfl underlying32 (vp) (by decide) rfl rfl (fun v' => (by repeat constructor)) (by repeat constructor) (by omega) (jt os) (by unfold maxLen; omega) (by omega) (fun v55 => ?_);refine qM (Hp.Le.refl _) ?_;refine qO (i := 17) (qB 21 262143) rfl ?_;refine oD underlying32 vp fun v64 => ?_;refine qM (Hp.Le.refl _) ?_;refine qT (i := 18) (qB 21 524287) (Hp.Le.refl _) rfl rfl (oV qF) ?_;refine qT (i := 19) (qB 21 1048575) (Hp.Le.refl _) rfl rfl (oF 4 underlying59 sizeOf32 qF) ?_;refine qO (i := 20) (qB 21 2097151) rfl ?_;refine vq (u := v64) (by repeat constructor) (fun hcv2 => ?_);refine qz trivial rfl rfl (hcv2).1 sizeOf32 (hcv2).2 (by repeat constructor) (by exact Nat.le_of_ble_eq_true rfl) ?_;refine qM (Hp.Le.refl _) ?_;refine qn (by kernel_rfl) ?_;refine ret0 rfl ?_;refine fun w' hw' => ⟨I,[skB b vi vl vo v43 v64,ndR v43 (ns ++ [ql c A Z]),opR v64 (os.take (os.length - k) ++ [(((ns ++ [ql c A Z]).length : Nat) : Int) - 1])],?_,Ext.refl _ _,rfl,rfl,_,_,_,_,_,rfl,by rw [List.length_append,List.length_take,List.length_singleton]; omega⟩
   have e1 : (((os.length : Nat) : Int) - ((k : Nat) : Int)).toNat = os.length - k := by omega
   have e2 : (os.take (os.length - k) ++ [(((ns ++ [ql c A Z]).length : Nat) : Int) - 1]).length = 0 + (((os.length : Nat) : Int) - ((k : Nat) : Int)).toNat + 1 := by rw [List.length_append,List.length_take,List.length_singleton,e1]; omega
   have e3 : ([] ++ (ics os).flatten.take ((((os.length : Nat) : Int) - ((k : Nat) : Int)).toNat * 1)) ++ [Value.int .i64 ((((ns ++ [ql c A Z]).length : Nat) : Int) - 1)] = (ics (os.take (os.length - k) ++ [(((ns ++ [ql c A Z]).length : Nat) : Int) - 1])).flatten := by rw [List.nil_append,Nat.mul_one,ju,y6,e1]
   unfold opR
   rw [e2,← e3]
   exact hw'.sort (by repeat constructor)
  refine qP (qB 21 15967) rfl ?_;refine oL isAgg27 ?_;refine qM (Hp.Le.refl _) ?_;refine qT (i := 14) (qB 21 32351) (Hp.Le.refl _) rfl rfl (yi trivial rfl underlying27 rfl (by repeat constructor) qF) ?_;refine' qT (i := 15) (qB 21 65119) (Hp.Le.refl _) rfl rfl ?hh2 ?kk2
  case hh2 =>
   first | (refine vy trivial rfl rfl rfl ?_ ?_; (omega)) | refine oV ?_
   exact qF
  refine h_go [5,16] (by kernel_rfl) rfl (TWHs.cons ?_ (TWHs.cons ?_ TWHs.nil))
  ·
   refine qP (qB 21 65151) rfl ?_;refine oL isAgg32 ?_;refine qM (Hp.Le.refl _) ?_;refine qT (i := 7) (qB 21 65279) (Hp.Le.refl _) rfl rfl (qb7 trivial rfl underlying32 sizeOf3 rfl rfl (by repeat constructor) (by omega) qF) ?_;refine h_go [8,16] (by kernel_rfl) rfl (TWHs.cons ?_ (TWHs.cons ?_ TWHs.nil))
   ·
    refine qP (qB 21 65535) rfl ?_;refine js trivial rfl underlying32 (vp) (by decide) rfl rfl (fun v' => (by repeat constructor)) (by repeat constructor) (by omega) (jt os) (by unfold maxLen; omega) (by omega) (fun v55 => ?_);refine qM (Hp.Le.refl _) ?_;refine qO (i := 16) (qB 21 131071) rfl ?_;refine oB underlying32 sizeOf3 zeroValue3 fun b63 => ?_;refine qM (Hp.Le.refl _) ?_;refine qO (i := 17) (qB 21 262143) rfl ?_;refine oD underlying32 vp fun v64 => ?_;refine qM (Hp.Le.refl _) ?_;refine qT (i := 18) (qB 21 524287) (Hp.Le.refl _) rfl rfl (oV qF) ?_;refine qT (i := 19) (qB 21 1048575) (Hp.Le.refl _) rfl rfl (oF 4 underlying59 sizeOf32 qF) ?_;refine qO (i := 20) (qB 21 2097151) rfl ?_;refine vq (u := v64) (by repeat constructor) (fun hcv2 => ?_);refine qz trivial rfl rfl (hcv2).1 sizeOf32 (hcv2).2 (by repeat constructor) (by exact Nat.le_of_ble_eq_true rfl) ?_;refine qM (Hp.Le.refl _) ?_;refine qn (by kernel_rfl) ?_;refine ret0 rfl ?_;refine fun w' hw' => ⟨I,[skB b vi vl vo v43 v64,ndR v43 (ns ++ [ql c A Z]),opR v64 (os.take (os.length - k) ++ [(((ns ++ [ql c A Z]).length : Nat) : Int) - 1])],?_,Ext.refl _ _,rfl,rfl,_,_,_,_,_,rfl,by rw [List.length_append,List.length_take,List.length_singleton]; omega⟩
    have e1 : (((os.length : Nat) : Int) - ((k : Nat) : Int)).toNat = os.length - k := by omega
    have e2 : (os.take (os.length - k) ++ [(((ns ++ [ql c A Z]).length : Nat) : Int) - 1]).length = 0 + (((os.length : Nat) : Int) - ((k : Nat) : Int)).toNat + 1 := by rw [List.length_append,List.length_take,List.length_singleton,e1]; omega
    have e3 : ([] ++ (ics os).flatten.take ((((os.length : Nat) : Int) - ((k : Nat) : Int)).toNat * 1)) ++ [Value.int .i64 ((((ns ++ [ql c A Z]).length : Nat) : Int) - 1)] = (ics (os.take (os.length - k) ++ [(((ns ++ [ql c A Z]).length : Nat) : Int) - 1])).flatten := by rw [List.nil_append,Nat.mul_one,ju,y6,e1]
    unfold opR
    rw [e2,← e3]
    exact hw'.sort (by repeat constructor)
   refine qP (qB 21 130815) rfl ?_;refine oB underlying32 sizeOf3 zeroValue3 fun b63 => ?_;refine qM (Hp.Le.refl _) ?_;refine qO (i := 8) (qB 21 131071) rfl ?_;refine js trivial rfl underlying32 (vp) (by decide) rfl rfl (fun v' => (by repeat constructor)) (by repeat constructor) (by omega) (jt os) (by unfold maxLen; omega) (by omega) (fun v55 => ?_);refine qM (Hp.Le.refl _) ?_;refine qO (i := 17) (qB 21 262143) rfl ?_;refine oD underlying32 vp fun v64 => ?_;refine qM (Hp.Le.refl _) ?_;refine qT (i := 18) (qB 21 524287) (Hp.Le.refl _) rfl rfl (oV qF) ?_;refine qT (i := 19) (qB 21 1048575) (Hp.Le.refl _) rfl rfl (oF 4 underlying59 sizeOf32 qF) ?_;refine qO (i := 20) (qB 21 2097151) rfl ?_;refine vq (u := v64) (by repeat constructor) (fun hcv2 => ?_);refine qz trivial rfl rfl (hcv2).1 sizeOf32 (hcv2).2 (by repeat constructor) (by exact Nat.le_of_ble_eq_true rfl) ?_;refine qM (Hp.Le.refl _) ?_;refine qn (by kernel_rfl) ?_;refine ret0 rfl ?_;refine fun w' hw' => ⟨I,[skB b vi vl vo v43 v64,ndR v43 (ns ++ [ql c A Z]),opR v64 (os.take (os.length - k) ++ [(((ns ++ [ql c A Z]).length : Nat) : Int) - 1])],?_,Ext.refl _ _,rfl,rfl,_,_,_,_,_,rfl,by rw [List.length_append,List.length_take,List.length_singleton]; omega⟩
   have e1 : (((os.length : Nat) : Int) - ((k : Nat) : Int)).toNat = os.length - k := by omega
   have e2 : (os.take (os.length - k) ++ [(((ns ++ [ql c A Z]).length : Nat) : Int) - 1]).length = 0 + (((os.length : Nat) : Int) - ((k : Nat) : Int)).toNat + 1 := by rw [List.length_append,List.length_take,List.length_singleton,e1]; omega
   have e3 : ([] ++ (ics os).flatten.take ((((os.length : Nat) : Int) - ((k : Nat) : Int)).toNat * 1)) ++ [Value.int .i64 ((((ns ++ [ql c A Z]).length : Nat) : Int) - 1)] = (ics (os.take (os.length - k) ++ [(((ns ++ [ql c A Z]).length : Nat) : Int) - 1])).flatten := by rw [List.nil_append,Nat.mul_one,ju,y6,e1]
   unfold opR
   rw [e2,← e3]
   exact hw'.sort (by repeat constructor)
  refine qP (qB 21 130655) rfl ?_;refine oB underlying32 sizeOf3 zeroValue3 fun b63 => ?_;refine qM (Hp.Le.refl _) ?_;refine qO (i := 5) (qB 21 130687) rfl ?_;refine oL isAgg32 ?_;refine qM (Hp.Le.refl _) ?_;refine qT (i := 7) (qB 21 130815) (Hp.Le.refl _) rfl rfl (qb7 trivial rfl underlying32 sizeOf3 rfl rfl (by repeat constructor) (by omega) qF) ?_;refine qO (i := 8) (qB 21 131071) rfl ?_;refine js trivial rfl underlying32 (vp) (by decide) rfl rfl (fun v' => (by repeat constructor)) (by repeat constructor) (by omega) (jt os) (by unfold maxLen; omega) (by omega) (fun v55 => ?_);refine qM (Hp.Le.refl _) ?_;refine qO (i := 17) (qB 21 262143) rfl ?_;refine oD underlying32 vp fun v64 => ?_;refine qM (Hp.Le.refl _) ?_;refine qT (i := 18) (qB 21 524287) (Hp.Le.refl _) rfl rfl (oV qF) ?_;refine qT (i := 19) (qB 21 1048575) (Hp.Le.refl _) rfl rfl (oF 4 underlying59 sizeOf32 qF) ?_;refine qO (i := 20) (qB 21 2097151) rfl ?_;refine vq (u := v64) (by repeat constructor) (fun hcv2 => ?_);refine qz trivial rfl rfl (hcv2).1 sizeOf32 (hcv2).2 (by repeat constructor) (by exact Nat.le_of_ble_eq_true rfl) ?_;refine qM (Hp.Le.refl _) ?_;refine qn (by kernel_rfl) ?_;refine ret0 rfl ?_;refine fun w' hw' => ⟨I,[skB b vi vl vo v43 v64,ndR v43 (ns ++ [ql c A Z]),opR v64 (os.take (os.length - k) ++ [(((ns ++ [ql c A Z]).length : Nat) : Int) - 1])],?_,Ext.refl _ _,rfl,rfl,_,_,_,_,_,rfl,by rw [List.length_append,List.length_take,List.length_singleton]; omega⟩
  have e1 : (((os.length : Nat) : Int) - ((k : Nat) : Int)).toNat = os.length - k := by omega
  have e2 : (os.take (os.length - k) ++ [(((ns ++ [ql c A Z]).length : Nat) : Int) - 1]).length = 0 + (((os.length : Nat) : Int) - ((k : Nat) : Int)).toNat + 1 := by rw [List.length_append,List.length_take,List.length_singleton,e1]; omega
  have e3 : ([] ++ (ics os).flatten.take ((((os.length : Nat) : Int) - ((k : Nat) : Int)).toNat * 1)) ++ [Value.int .i64 ((((ns ++ [ql c A Z]).length : Nat) : Int) - 1)] = (ics (os.take (os.length - k) ++ [(((ns ++ [ql c A Z]).length : Nat) : Int) - 1])).flatten := by rw [List.nil_append,Nat.mul_one,ju,y6,e1]
  unfold opR
  rw [e2,← e3]
  exact hw'.sort (by repeat constructor)
 ·
  refine qP (qB 21 7805) rfl ?_;refine oL isAgg32 ?_;refine qM (Hp.Le.refl _) ?_;refine qT (i := 7) (qB 21 7933) (Hp.Le.refl _) rfl rfl (qb7 trivial rfl underlying32 sizeOf3 rfl rfl (by repeat constructor) (by omega) qF) ?_;refine h_go [1,13] (by kernel_rfl) rfl (TWHs.cons ?_ (TWHs.cons ?_ TWHs.nil))
  ·
   refine qP (qB 21 7935) rfl ?_;refine qaw trivial rfl underlying32 sizeOf3 (fun v48 => ?_);refine qM (Hp.Le.refl _) ?_;refine h_go [8,13] (by kernel_rfl) rfl (TWHs.cons ?_ (TWHs.cons ?_ TWHs.nil))
   ·
    refine qP (qB 21 8191) rfl ?_;refine js trivial rfl underlying32 (vp) (by decide) rfl rfl (fun v' => (by repeat constructor)) (by repeat constructor) (by omega) (jt os) (by unfold maxLen; omega) (by omega) (fun v55 => ?_);refine qM (Hp.Le.refl _) ?_;refine qO (i := 13) (qB 21 16383) rfl ?_;refine oL isAgg27 ?_;refine qM (Hp.Le.refl _) ?_;refine qT (i := 14) (qB 21 32767) (Hp.Le.refl _) rfl rfl (yi trivial rfl underlying27 rfl (by repeat constructor) qF) ?_;refine' qT (i := 15) (qB 21 65535) (Hp.Le.refl _) rfl rfl ?hh3 ?kk3
    case hh3 =>
     first | (refine vy trivial rfl rfl rfl ?_ ?_; (omega)) | refine oV ?_
     exact qF
    refine qO (i := 16) (qB 21 131071) rfl ?_;refine oB underlying32 sizeOf3 zeroValue3 fun b63 => ?_;refine qM (Hp.Le.refl _) ?_;refine qO (i := 17) (qB 21 262143) rfl ?_;refine oD underlying32 vp fun v64 => ?_;refine qM (Hp.Le.refl _) ?_;refine qT (i := 18) (qB 21 524287) (Hp.Le.refl _) rfl rfl (oV qF) ?_;refine qT (i := 19) (qB 21 1048575) (Hp.Le.refl _) rfl rfl (oF 4 underlying59 sizeOf32 qF) ?_;refine qO (i := 20) (qB 21 2097151) rfl ?_;refine vq (u := v64) (by repeat constructor) (fun hcv2 => ?_);refine qz trivial rfl rfl (hcv2).1 sizeOf32 (hcv2).2 (by repeat constructor) (by exact Nat.le_of_ble_eq_true rfl) ?_;refine qM (Hp.Le.refl _) ?_;refine qn (by kernel_rfl) ?_;refine ret0 rfl ?_;refine fun w' hw' => ⟨I,[skB b vi vl vo v43 v64,ndR v43 (ns ++ [ql c A Z]),opR v64 (os.take (os.length - k) ++ [(((ns ++ [ql c A Z]).length : Nat) : Int) - 1])],?_,Ext.refl _ _,rfl,rfl,_,_,_,_,_,rfl,by rw [List.length_append,List.length_take,List.length_singleton]; omega⟩
    have e1 : (((os.length : Nat) : Int) - ((k : Nat) : Int)).toNat = os.length - k := by omega
    have e2 : (os.take (os.length - k) ++ [(((ns ++ [ql c A Z]).length : Nat) : Int) - 1]).length = 0 + (((os.length : Nat) : Int) - ((k : Nat) : Int)).toNat + 1 := by rw [List.length_append,List.length_take,List.length_singleton,e1]; omega
    have e3 : ([] ++ (ics os).flatten.take ((((os.length : Nat) : Int) - ((k : Nat) : Int)).toNat * 1)) ++ [Value.int .i64 ((((ns ++ [ql c A Z]).length : Nat) : Int) - 1)] = (ics (os.take (os.length - k) ++ [(((ns ++ [ql c A Z]).length : Nat) : Int) - 1])).flatten := by rw [List.nil_append,Nat.mul_one,ju,y6,e1]
    unfold opR
    rw [e2,← e3]
    exact hw'.sort (by repeat constructor)
   refine qP (qB 21 16127) rfl ?_;refine oL isAgg27 ?_;refine qM (Hp.Le.refl _) ?_;refine qT (i := 14) (qB 21 32511) (Hp.Le.refl _) rfl rfl (yi trivial rfl underlying27 rfl (by repeat constructor) qF) ?_;refine' qT (i := 15) (qB 21 65279) (Hp.Le.refl _) rfl rfl ?hh4 ?kk4
   case hh4 =>
    first | (refine vy trivial rfl rfl rfl ?_ ?_; (omega)) | refine oV ?_
    exact qF
   refine h_go [8,16] (by kernel_rfl) rfl (TWHs.cons ?_ (TWHs.cons ?_ TWHs.nil))
   ·
    refine qP (qB 21 65535) rfl ?_;refine js trivial rfl underlying32 (vp) (by decide) rfl rfl (fun v' => (by repeat constructor)) (by repeat constructor) (by omega) (jt os) (by unfold maxLen; omega) (by omega) (fun v55 => ?_);refine qM (Hp.Le.refl _) ?_;refine qO (i := 16) (qB 21 131071) rfl ?_;refine oB underlying32 sizeOf3 zeroValue3 fun b63 => ?_;refine qM (Hp.Le.refl _) ?_;refine qO (i := 17) (qB 21 262143) rfl ?_;refine oD underlying32 vp fun v64 => ?_;refine qM (Hp.Le.refl _) ?_;refine qT (i := 18) (qB 21 524287) (Hp.Le.refl _) rfl rfl (oV qF) ?_;refine qT (i := 19) (qB 21 1048575) (Hp.Le.refl _) rfl rfl (oF 4 underlying59 sizeOf32 qF) ?_;refine qO (i := 20) (qB 21 2097151) rfl ?_;refine vq (u := v64) (by repeat constructor) (fun hcv2 => ?_);refine qz trivial rfl rfl (hcv2).1 sizeOf32 (hcv2).2 (by repeat constructor) (by exact Nat.le_of_ble_eq_true rfl) ?_;refine qM (Hp.Le.refl _) ?_;refine qn (by kernel_rfl) ?_;refine ret0 rfl ?_;refine fun w' hw' => ⟨I,[skB b vi vl vo v43 v64,ndR v43 (ns ++ [ql c A Z]),opR v64 (os.take (os.length - k) ++ [(((ns ++ [ql c A Z]).length : Nat) : Int) - 1])],?_,Ext.refl _ _,rfl,rfl,_,_,_,_,_,rfl,by rw [List.length_append,List.length_take,List.length_singleton]; omega⟩
    have e1 : (((os.length : Nat) : Int) - ((k : Nat) : Int)).toNat = os.length - k := by omega
    have e2 : (os.take (os.length - k) ++ [(((ns ++ [ql c A Z]).length : Nat) : Int) - 1]).length = 0 + (((os.length : Nat) : Int) - ((k : Nat) : Int)).toNat + 1 := by rw [List.length_append,List.length_take,List.length_singleton,e1]; omega
    have e3 : ([] ++ (ics os).flatten.take ((((os.length : Nat) : Int) - ((k : Nat) : Int)).toNat * 1)) ++ [Value.int .i64 ((((ns ++ [ql c A Z]).length : Nat) : Int) - 1)] = (ics (os.take (os.length - k) ++ [(((ns ++ [ql c A Z]).length : Nat) : Int) - 1])).flatten := by rw [List.nil_append,Nat.mul_one,ju,y6,e1]
    unfold opR
    rw [e2,← e3]
    exact hw'.sort (by repeat constructor)
   refine qP (qB 21 130815) rfl ?_;refine oB underlying32 sizeOf3 zeroValue3 fun b63 => ?_;refine qM (Hp.Le.refl _) ?_;refine qO (i := 8) (qB 21 131071) rfl ?_;refine js trivial rfl underlying32 (vp) (by decide) rfl rfl (fun v' => (by repeat constructor)) (by repeat constructor) (by omega) (jt os) (by unfold maxLen; omega) (by omega) (fun v55 => ?_);refine qM (Hp.Le.refl _) ?_;refine qO (i := 17) (qB 21 262143) rfl ?_;refine oD underlying32 vp fun v64 => ?_;refine qM (Hp.Le.refl _) ?_;refine qT (i := 18) (qB 21 524287) (Hp.Le.refl _) rfl rfl (oV qF) ?_;refine qT (i := 19) (qB 21 1048575) (Hp.Le.refl _) rfl rfl (oF 4 underlying59 sizeOf32 qF) ?_;refine qO (i := 20) (qB 21 2097151) rfl ?_;refine vq (u := v64) (by repeat constructor) (fun hcv2 => ?_);refine qz trivial rfl rfl (hcv2).1 sizeOf32 (hcv2).2 (by repeat constructor) (by exact Nat.le_of_ble_eq_true rfl) ?_;refine qM (Hp.Le.refl _) ?_;refine qn (by kernel_rfl) ?_;refine ret0 rfl ?_;refine fun w' hw' => ⟨I,[skB b vi vl vo v43 v64,ndR v43 (ns ++ [ql c A Z]),opR v64 (os.take (os.length - k) ++ [(((ns ++ [ql c A Z]).length : Nat) : Int) - 1])],?_,Ext.refl _ _,rfl,rfl,_,_,_,_,_,rfl,by rw [List.length_append,List.length_take,List.length_singleton]; omega⟩
   have e1 : (((os.length : Nat) : Int) - ((k : Nat) : Int)).toNat = os.length - k := by omega
   have e2 : (os.take (os.length - k) ++ [(((ns ++ [ql c A Z]).length : Nat) : Int) - 1]).length = 0 + (((os.length : Nat) : Int) - ((k : Nat) : Int)).toNat + 1 := by rw [List.length_append,List.length_take,List.length_singleton,e1]; omega
   have e3 : ([] ++ (ics os).flatten.take ((((os.length : Nat) : Int) - ((k : Nat) : Int)).toNat * 1)) ++ [Value.int .i64 ((((ns ++ [ql c A Z]).length : Nat) : Int) - 1)] = (ics (os.take (os.length - k) ++ [(((ns ++ [ql c A Z]).length : Nat) : Int) - 1])).flatten := by rw [List.nil_append,Nat.mul_one,ju,y6,e1]
   unfold opR
   rw [e2,← e3]
   exact hw'.sort (by repeat constructor)
  refine qP (qB 21 16125) rfl ?_;refine oL isAgg27 ?_;refine qM (Hp.Le.refl _) ?_;refine qT (i := 14) (qB 21 32509) (Hp.Le.refl _) rfl rfl (yi trivial rfl underlying27 rfl (by repeat constructor) qF) ?_;refine' qT (i := 15) (qB 21 65277) (Hp.Le.refl _) rfl rfl ?hh5 ?kk5
  case hh5 =>
   first | (refine vy trivial rfl rfl rfl ?_ ?_; (omega)) | refine oV ?_
   exact qF
  refine h_go [1,16] (by kernel_rfl) rfl (TWHs.cons ?_ (TWHs.cons ?_ TWHs.nil))
  ·
   refine qP (qB 21 65279) rfl ?_;refine qaw trivial rfl underlying32 sizeOf3 (fun v48 => ?_);refine qM (Hp.Le.refl _) ?_;refine h_go [8,16] (by kernel_rfl) rfl (TWHs.cons ?_ (TWHs.cons ?_ TWHs.nil))
   ·
    refine qP (qB 21 65535) rfl ?_;refine js trivial rfl underlying32 (vp) (by decide) rfl rfl (fun v' => (by repeat constructor)) (by repeat constructor) (by omega) (jt os) (by unfold maxLen; omega) (by omega) (fun v55 => ?_);refine qM (Hp.Le.refl _) ?_;refine qO (i := 16) (qB 21 131071) rfl ?_;refine oB underlying32 sizeOf3 zeroValue3 fun b63 => ?_;refine qM (Hp.Le.refl _) ?_;refine qO (i := 17) (qB 21 262143) rfl ?_;refine oD underlying32 vp fun v64 => ?_;refine qM (Hp.Le.refl _) ?_;refine qT (i := 18) (qB 21 524287) (Hp.Le.refl _) rfl rfl (oV qF) ?_;refine qT (i := 19) (qB 21 1048575) (Hp.Le.refl _) rfl rfl (oF 4 underlying59 sizeOf32 qF) ?_;refine qO (i := 20) (qB 21 2097151) rfl ?_;refine vq (u := v64) (by repeat constructor) (fun hcv2 => ?_);refine qz trivial rfl rfl (hcv2).1 sizeOf32 (hcv2).2 (by repeat constructor) (by exact Nat.le_of_ble_eq_true rfl) ?_;refine qM (Hp.Le.refl _) ?_;refine qn (by kernel_rfl) ?_;refine ret0 rfl ?_;refine fun w' hw' => ⟨I,[skB b vi vl vo v43 v64,ndR v43 (ns ++ [ql c A Z]),opR v64 (os.take (os.length - k) ++ [(((ns ++ [ql c A Z]).length : Nat) : Int) - 1])],?_,Ext.refl _ _,rfl,rfl,_,_,_,_,_,rfl,by rw [List.length_append,List.length_take,List.length_singleton]; omega⟩
    have e1 : (((os.length : Nat) : Int) - ((k : Nat) : Int)).toNat = os.length - k := by omega
    have e2 : (os.take (os.length - k) ++ [(((ns ++ [ql c A Z]).length : Nat) : Int) - 1]).length = 0 + (((os.length : Nat) : Int) - ((k : Nat) : Int)).toNat + 1 := by rw [List.length_append,List.length_take,List.length_singleton,e1]; omega
    have e3 : ([] ++ (ics os).flatten.take ((((os.length : Nat) : Int) - ((k : Nat) : Int)).toNat * 1)) ++ [Value.int .i64 ((((ns ++ [ql c A Z]).length : Nat) : Int) - 1)] = (ics (os.take (os.length - k) ++ [(((ns ++ [ql c A Z]).length : Nat) : Int) - 1])).flatten := by rw [List.nil_append,Nat.mul_one,ju,y6,e1]
    unfold opR
    rw [e2,← e3]
    exact hw'.sort (by repeat constructor)
   refine qP (qB 21 130815) rfl ?_;refine oB underlying32 sizeOf3 zeroValue3 fun b63 => ?_;refine qM (Hp.Le.refl _) ?_;refine qO (i := 8) (qB 21 131071) rfl ?_;refine js trivial rfl underlying32 (vp) (by decide) rfl rfl (fun v' => (by repeat constructor)) (by repeat constructor) (by omega) (jt os) (by unfold maxLen; omega) (by omega) (fun v55 => ?_);refine qM (Hp.Le.refl _) ?_;refine qO (i := 17) (qB 21 262143) rfl ?_;refine oD underlying32 vp fun v64 => ?_;refine qM (Hp.Le.refl _) ?_;refine qT (i := 18) (qB 21 524287) (Hp.Le.refl _) rfl rfl (oV qF) ?_;refine qT (i := 19) (qB 21 1048575) (Hp.Le.refl _) rfl rfl (oF 4 underlying59 sizeOf32 qF) ?_;refine qO (i := 20) (qB 21 2097151) rfl ?_;refine vq (u := v64) (by repeat constructor) (fun hcv2 => ?_);refine qz trivial rfl rfl (hcv2).1 sizeOf32 (hcv2).2 (by repeat constructor) (by exact Nat.le_of_ble_eq_true rfl) ?_;refine qM (Hp.Le.refl _) ?_;refine qn (by kernel_rfl) ?_;refine ret0 rfl ?_;refine fun w' hw' => ⟨I,[skB b vi vl vo v43 v64,ndR v43 (ns ++ [ql c A Z]),opR v64 (os.take (os.length - k) ++ [(((ns ++ [ql c A Z]).length : Nat) : Int) - 1])],?_,Ext.refl _ _,rfl,rfl,_,_,_,_,_,rfl,by rw [List.length_append,List.length_take,List.length_singleton]; omega⟩
   have e1 : (((os.length : Nat) : Int) - ((k : Nat) : Int)).toNat = os.length - k := by omega
   have e2 : (os.take (os.length - k) ++ [(((ns ++ [ql c A Z]).length : Nat) : Int) - 1]).length = 0 + (((os.length : Nat) : Int) - ((k : Nat) : Int)).toNat + 1 := by rw [List.length_append,List.length_take,List.length_singleton,e1]; omega
   have e3 : ([] ++ (ics os).flatten.take ((((os.length : Nat) : Int) - ((k : Nat) : Int)).toNat * 1)) ++ [Value.int .i64 ((((ns ++ [ql c A Z]).length : Nat) : Int) - 1)] = (ics (os.take (os.length - k) ++ [(((ns ++ [ql c A Z]).length : Nat) : Int) - 1])).flatten := by rw [List.nil_append,Nat.mul_one,ju,y6,e1]
   unfold opR
   rw [e2,← e3]
   exact hw'.sort (by repeat constructor)
  refine qP (qB 21 130813) rfl ?_;refine oB underlying32 sizeOf3 zeroValue3 fun b63 => ?_;refine qM (Hp.Le.refl _) ?_;refine qO (i := 1) (qB 21 130815) rfl ?_;refine qaw trivial rfl underlying32 sizeOf3 (fun v48 => ?_);refine qM (Hp.Le.refl _) ?_;refine qO (i := 8) (qB 21 131071) rfl ?_;refine js trivial rfl underlying32 (vp) (by decide) rfl rfl (fun v' => (by repeat constructor)) (by repeat constructor) (by omega) (jt os) (by unfold maxLen; omega) (by omega) (fun v55 => ?_);refine qM (Hp.Le.refl _) ?_;refine qO (i := 17) (qB 21 262143) rfl ?_;refine oD underlying32 vp fun v64 => ?_;refine qM (Hp.Le.refl _) ?_;refine qT (i := 18) (qB 21 524287) (Hp.Le.refl _) rfl rfl (oV qF) ?_;refine qT (i := 19) (qB 21 1048575) (Hp.Le.refl _) rfl rfl (oF 4 underlying59 sizeOf32 qF) ?_;refine qO (i := 20) (qB 21 2097151) rfl ?_;refine vq (u := v64) (by repeat constructor) (fun hcv2 => ?_);refine qz trivial rfl rfl (hcv2).1 sizeOf32 (hcv2).2 (by repeat constructor) (by exact Nat.le_of_ble_eq_true rfl) ?_;refine qM (Hp.Le.refl _) ?_;refine qn (by kernel_rfl) ?_;refine ret0 rfl ?_;refine fun w' hw' => ⟨I,[skB b vi vl vo v43 v64,ndR v43 (ns ++ [ql c A Z]),opR v64 (os.take (os.length - k) ++ [(((ns ++ [ql c A Z]).length : Nat) : Int) - 1])],?_,Ext.refl _ _,rfl,rfl,_,_,_,_,_,rfl,by rw [List.length_append,List.length_take,List.length_singleton]; omega⟩
  have e1 : (((os.length : Nat) : Int) - ((k : Nat) : Int)).toNat = os.length - k := by omega
  have e2 : (os.take (os.length - k) ++ [(((ns ++ [ql c A Z]).length : Nat) : Int) - 1]).length = 0 + (((os.length : Nat) : Int) - ((k : Nat) : Int)).toNat + 1 := by rw [List.length_append,List.length_take,List.length_singleton,e1]; omega
  have e3 : ([] ++ (ics os).flatten.take ((((os.length : Nat) : Int) - ((k : Nat) : Int)).toNat * 1)) ++ [Value.int .i64 ((((ns ++ [ql c A Z]).length : Nat) : Int) - 1)] = (ics (os.take (os.length - k) ++ [(((ns ++ [ql c A Z]).length : Nat) : Int) - 1])).flatten := by rw [List.nil_append,Nat.mul_one,ju,y6,e1]
  unfold opR
  rw [e2,← e3]
  exact hw'.sort (by repeat constructor)
 refine qP (qB 21 15965) rfl ?_;refine oL isAgg27 ?_;refine qM (Hp.Le.refl _) ?_;refine qT (i := 14) (qB 21 32349) (Hp.Le.refl _) rfl rfl (yi trivial rfl underlying27 rfl (by repeat constructor) qF) ?_;refine' qT (i := 15) (qB 21 65117) (Hp.Le.refl _) rfl rfl ?hh6 ?kk6
 case hh6 =>
  first | (refine vy trivial rfl rfl rfl ?_ ?_; (omega)) | refine oV ?_
  exact qF
 refine h_go [1,5,16] (by kernel_rfl) rfl (TWHs.cons ?_ (TWHs.cons ?_ (TWHs.cons ?_ TWHs.nil)))
 ·
  refine qP (qB 21 65119) rfl ?_;refine qaw trivial rfl underlying32 sizeOf3 (fun v48 => ?_);refine qM (Hp.Le.refl _) ?_;refine h_go [5,16] (by kernel_rfl) rfl (TWHs.cons ?_ (TWHs.cons ?_ TWHs.nil))
  ·
   refine qP (qB 21 65151) rfl ?_;refine oL isAgg32 ?_;refine qM (Hp.Le.refl _) ?_;refine qT (i := 7) (qB 21 65279) (Hp.Le.refl _) rfl rfl (qb7 trivial rfl underlying32 sizeOf3 rfl rfl (by repeat constructor) (by omega) qF) ?_;refine h_go [8,16] (by kernel_rfl) rfl (TWHs.cons ?_ (TWHs.cons ?_ TWHs.nil))
   ·
    refine qP (qB 21 65535) rfl ?_;refine js trivial rfl underlying32 (vp) (by decide) rfl rfl (fun v' => (by repeat constructor)) (by repeat constructor) (by omega) (jt os) (by unfold maxLen; omega) (by omega) (fun v55 => ?_);refine qM (Hp.Le.refl _) ?_;refine qO (i := 16) (qB 21 131071) rfl ?_;refine oB underlying32 sizeOf3 zeroValue3 fun b63 => ?_;refine qM (Hp.Le.refl _) ?_;refine qO (i := 17) (qB 21 262143) rfl ?_;refine oD underlying32 vp fun v64 => ?_;refine qM (Hp.Le.refl _) ?_;refine qT (i := 18) (qB 21 524287) (Hp.Le.refl _) rfl rfl (oV qF) ?_;refine qT (i := 19) (qB 21 1048575) (Hp.Le.refl _) rfl rfl (oF 4 underlying59 sizeOf32 qF) ?_;refine qO (i := 20) (qB 21 2097151) rfl ?_;refine vq (u := v64) (by repeat constructor) (fun hcv2 => ?_);refine qz trivial rfl rfl (hcv2).1 sizeOf32 (hcv2).2 (by repeat constructor) (by exact Nat.le_of_ble_eq_true rfl) ?_;refine qM (Hp.Le.refl _) ?_;refine qn (by kernel_rfl) ?_;refine ret0 rfl ?_;refine fun w' hw' => ⟨I,[skB b vi vl vo v43 v64,ndR v43 (ns ++ [ql c A Z]),opR v64 (os.take (os.length - k) ++ [(((ns ++ [ql c A Z]).length : Nat) : Int) - 1])],?_,Ext.refl _ _,rfl,rfl,_,_,_,_,_,rfl,by rw [List.length_append,List.length_take,List.length_singleton]; omega⟩
    have e1 : (((os.length : Nat) : Int) - ((k : Nat) : Int)).toNat = os.length - k := by omega
    have e2 : (os.take (os.length - k) ++ [(((ns ++ [ql c A Z]).length : Nat) : Int) - 1]).length = 0 + (((os.length : Nat) : Int) - ((k : Nat) : Int)).toNat + 1 := by rw [List.length_append,List.length_take,List.length_singleton,e1]; omega
    have e3 : ([] ++ (ics os).flatten.take ((((os.length : Nat) : Int) - ((k : Nat) : Int)).toNat * 1)) ++ [Value.int .i64 ((((ns ++ [ql c A Z]).length : Nat) : Int) - 1)] = (ics (os.take (os.length - k) ++ [(((ns ++ [ql c A Z]).length : Nat) : Int) - 1])).flatten := by rw [List.nil_append,Nat.mul_one,ju,y6,e1]
    unfold opR
    rw [e2,← e3]
    exact hw'.sort (by repeat constructor)
   refine qP (qB 21 130815) rfl ?_;refine oB underlying32 sizeOf3 zeroValue3 fun b63 => ?_;refine qM (Hp.Le.refl _) ?_;refine qO (i := 8) (qB 21 131071) rfl ?_;refine js trivial rfl underlying32 (vp) (by decide) rfl rfl (fun v' => (by repeat constructor)) (by repeat constructor) (by omega) (jt os) (by unfold maxLen; omega) (by omega) (fun v55 => ?_);refine qM (Hp.Le.refl _) ?_;refine qO (i := 17) (qB 21 262143) rfl ?_;refine oD underlying32 vp fun v64 => ?_;refine qM (Hp.Le.refl _) ?_;refine qT (i := 18) (qB 21 524287) (Hp.Le.refl _) rfl rfl (oV qF) ?_;refine qT (i := 19) (qB 21 1048575) (Hp.Le.refl _) rfl rfl (oF 4 underlying59 sizeOf32 qF) ?_;refine qO (i := 20) (qB 21 2097151) rfl ?_;refine vq (u := v64) (by repeat constructor) (fun hcv2 => ?_);refine qz trivial rfl rfl (hcv2).1 sizeOf32 (hcv2).2 (by repeat constructor) (by exact Nat.le_of_ble_eq_true rfl) ?_;refine qM (Hp.Le.refl _) ?_;refine qn (by kernel_rfl) ?_;refine ret0 rfl ?_;refine fun w' hw' => ⟨I,[skB b vi vl vo v43 v64,ndR v43 (ns ++ [ql c A Z]),opR v64 (os.take (os.length - k) ++ [(((ns ++ [ql c A Z]).length : Nat) : Int) - 1])],?_,Ext.refl _ _,rfl,rfl,_,_,_,_,_,rfl,by rw [List.length_append,List.length_take,List.length_singleton]; omega⟩
   have e1 : (((os.length : Nat) : Int) - ((k : Nat) : Int)).toNat = os.length - k := by omega
   have e2 : (os.take (os.length - k) ++ [(((ns ++ [ql c A Z]).length : Nat) : Int) - 1]).length = 0 + (((os.length : Nat) : Int) - ((k : Nat) : Int)).toNat + 1 := by rw [List.length_append,List.length_take,List.length_singleton,e1]; omega
   have e3 : ([] ++ (ics os).flatten.take ((((os.length : Nat) : Int) - ((k : Nat) : Int)).toNat * 1)) ++ [Value.int .i64 ((((ns ++ [ql c A Z]).length : Nat) : Int) - 1)] = (ics (os.take (os.length - k) ++ [(((ns ++ [ql c A Z]).length : Nat) : Int) - 1])).flatten := by rw [List.nil_append,Nat.mul_one,ju,y6,e1]
   unfold opR
   rw [e2,← e3]
   exact hw'.sort (by repeat constructor)
  refine qP (qB 21 130655) rfl ?_;refine oB underlying32 sizeOf3 zeroValue3 fun b63 => ?_;refine qM (Hp.Le.refl _) ?_;refine qO (i := 5) (qB 21 130687) rfl ?_;refine oL isAgg32 ?_;refine qM (Hp.Le.refl _) ?_;refine qT (i := 7) (qB 21 130815) (Hp.Le.refl _) rfl rfl (qb7 trivial rfl underlying32 sizeOf3 rfl rfl (by repeat constructor) (by omega) qF) ?_;refine qO (i := 8) (qB 21 131071) rfl ?_;refine js trivial rfl underlying32 (vp) (by decide) rfl rfl (fun v' => (by repeat constructor)) (by repeat constructor) (by omega) (jt os) (by unfold maxLen; omega) (by omega) (fun v55 => ?_);refine qM (Hp.Le.refl _) ?_;refine qO (i := 17) (qB 21 262143) rfl ?_;refine oD underlying32 vp fun v64 => ?_;refine qM (Hp.Le.refl _) ?_;refine qT (i := 18) (qB 21 524287) (Hp.Le.refl _) rfl rfl (oV qF) ?_;refine qT (i := 19) (qB 21 1048575) (Hp.Le.refl _) rfl rfl (oF 4 underlying59 sizeOf32 qF) ?_;refine qO (i := 20) (qB 21 2097151) rfl ?_;refine vq (u := v64) (by repeat constructor) (fun hcv2 => ?_);refine qz trivial rfl rfl (hcv2).1 sizeOf32 (hcv2).2 (by repeat constructor) (by exact Nat.le_of_ble_eq_true rfl) ?_;refine qM (Hp.Le.refl _) ?_;refine qn (by kernel_rfl) ?_;refine ret0 rfl ?_;refine fun w' hw' => ⟨I,[skB b vi vl vo v43 v64,ndR v43 (ns ++ [ql c A Z]),opR v64 (os.take (os.length - k) ++ [(((ns ++ [ql c A Z]).length : Nat) : Int) - 1])],?_,Ext.refl _ _,rfl,rfl,_,_,_,_,_,rfl,by rw [List.length_append,List.length_take,List.length_singleton]; omega⟩
  have e1 : (((os.length : Nat) : Int) - ((k : Nat) : Int)).toNat = os.length - k := by omega
  have e2 : (os.take (os.length - k) ++ [(((ns ++ [ql c A Z]).length : Nat) : Int) - 1]).length = 0 + (((os.length : Nat) : Int) - ((k : Nat) : Int)).toNat + 1 := by rw [List.length_append,List.length_take,List.length_singleton,e1]; omega
  have e3 : ([] ++ (ics os).flatten.take ((((os.length : Nat) : Int) - ((k : Nat) : Int)).toNat * 1)) ++ [Value.int .i64 ((((ns ++ [ql c A Z]).length : Nat) : Int) - 1)] = (ics (os.take (os.length - k) ++ [(((ns ++ [ql c A Z]).length : Nat) : Int) - 1])).flatten := by rw [List.nil_append,Nat.mul_one,ju,y6,e1]
  unfold opR
  rw [e2,← e3]
  exact hw'.sort (by repeat constructor)
 ·
  refine qP (qB 21 65149) rfl ?_;refine oL isAgg32 ?_;refine qM (Hp.Le.refl _) ?_;refine qT (i := 7) (qB 21 65277) (Hp.Le.refl _) rfl rfl (qb7 trivial rfl underlying32 sizeOf3 rfl rfl (by repeat constructor) (by omega) qF) ?_;refine h_go [1,16] (by kernel_rfl) rfl (TWHs.cons ?_ (TWHs.cons ?_ TWHs.nil))
  ·
   refine qP (qB 21 65279) rfl ?_;refine qaw trivial rfl underlying32 sizeOf3 (fun v48 => ?_);refine qM (Hp.Le.refl _) ?_;refine h_go [8,16] (by kernel_rfl) rfl (TWHs.cons ?_ (TWHs.cons ?_ TWHs.nil))
   ·
    refine qP (qB 21 65535) rfl ?_;refine js trivial rfl underlying32 (vp) (by decide) rfl rfl (fun v' => (by repeat constructor)) (by repeat constructor) (by omega) (jt os) (by unfold maxLen; omega) (by omega) (fun v55 => ?_);refine qM (Hp.Le.refl _) ?_;refine qO (i := 16) (qB 21 131071) rfl ?_;refine oB underlying32 sizeOf3 zeroValue3 fun b63 => ?_;refine qM (Hp.Le.refl _) ?_;refine qO (i := 17) (qB 21 262143) rfl ?_;refine oD underlying32 vp fun v64 => ?_;refine qM (Hp.Le.refl _) ?_;refine qT (i := 18) (qB 21 524287) (Hp.Le.refl _) rfl rfl (oV qF) ?_;refine qT (i := 19) (qB 21 1048575) (Hp.Le.refl _) rfl rfl (oF 4 underlying59 sizeOf32 qF) ?_;refine qO (i := 20) (qB 21 2097151) rfl ?_;refine vq (u := v64) (by repeat constructor) (fun hcv2 => ?_);refine qz trivial rfl rfl (hcv2).1 sizeOf32 (hcv2).2 (by repeat constructor) (by exact Nat.le_of_ble_eq_true rfl) ?_;refine qM (Hp.Le.refl _) ?_;refine qn (by kernel_rfl) ?_;refine ret0 rfl ?_;refine fun w' hw' => ⟨I,[skB b vi vl vo v43 v64,ndR v43 (ns ++ [ql c A Z]),opR v64 (os.take (os.length - k) ++ [(((ns ++ [ql c A Z]).length : Nat) : Int) - 1])],?_,Ext.refl _ _,rfl,rfl,_,_,_,_,_,rfl,by rw [List.length_append,List.length_take,List.length_singleton]; omega⟩
    have e1 : (((os.length : Nat) : Int) - ((k : Nat) : Int)).toNat = os.length - k := by omega
    have e2 : (os.take (os.length - k) ++ [(((ns ++ [ql c A Z]).length : Nat) : Int) - 1]).length = 0 + (((os.length : Nat) : Int) - ((k : Nat) : Int)).toNat + 1 := by rw [List.length_append,List.length_take,List.length_singleton,e1]; omega
    have e3 : ([] ++ (ics os).flatten.take ((((os.length : Nat) : Int) - ((k : Nat) : Int)).toNat * 1)) ++ [Value.int .i64 ((((ns ++ [ql c A Z]).length : Nat) : Int) - 1)] = (ics (os.take (os.length - k) ++ [(((ns ++ [ql c A Z]).length : Nat) : Int) - 1])).flatten := by rw [List.nil_append,Nat.mul_one,ju,y6,e1]
    unfold opR
    rw [e2,← e3]
    exact hw'.sort (by repeat constructor)
   refine qP (qB 21 130815) rfl ?_;refine oB underlying32 sizeOf3 zeroValue3 fun b63 => ?_;refine qM (Hp.Le.refl _) ?_;refine qO (i := 8) (qB 21 131071) rfl ?_;refine js trivial rfl underlying32 (vp) (by decide) rfl rfl (fun v' => (by repeat constructor)) (by repeat constructor) (by omega) (jt os) (by unfold maxLen; omega) (by omega) (fun v55 => ?_);refine qM (Hp.Le.refl _) ?_;refine qO (i := 17) (qB 21 262143) rfl ?_;refine oD underlying32 vp fun v64 => ?_;refine qM (Hp.Le.refl _) ?_;refine qT (i := 18) (qB 21 524287) (Hp.Le.refl _) rfl rfl (oV qF) ?_;refine qT (i := 19) (qB 21 1048575) (Hp.Le.refl _) rfl rfl (oF 4 underlying59 sizeOf32 qF) ?_;refine qO (i := 20) (qB 21 2097151) rfl ?_;refine vq (u := v64) (by repeat constructor) (fun hcv2 => ?_);refine qz trivial rfl rfl (hcv2).1 sizeOf32 (hcv2).2 (by repeat constructor) (by exact Nat.le_of_ble_eq_true rfl) ?_;refine qM (Hp.Le.refl _) ?_;refine qn (by kernel_rfl) ?_;refine ret0 rfl ?_;refine fun w' hw' => ⟨I,[skB b vi vl vo v43 v64,ndR v43 (ns ++ [ql c A Z]),opR v64 (os.take (os.length - k) ++ [(((ns ++ [ql c A Z]).length : Nat) : Int) - 1])],?_,Ext.refl _ _,rfl,rfl,_,_,_,_,_,rfl,by rw [List.length_append,List.length_take,List.length_singleton]; omega⟩
   have e1 : (((os.length : Nat) : Int) - ((k : Nat) : Int)).toNat = os.length - k := by omega
   have e2 : (os.take (os.length - k) ++ [(((ns ++ [ql c A Z]).length : Nat) : Int) - 1]).length = 0 + (((os.length : Nat) : Int) - ((k : Nat) : Int)).toNat + 1 := by rw [List.length_append,List.length_take,List.length_singleton,e1]; omega
   have e3 : ([] ++ (ics os).flatten.take ((((os.length : Nat) : Int) - ((k : Nat) : Int)).toNat * 1)) ++ [Value.int .i64 ((((ns ++ [ql c A Z]).length : Nat) : Int) - 1)] = (ics (os.take (os.length - k) ++ [(((ns ++ [ql c A Z]).length : Nat) : Int) - 1])).flatten := by rw [List.nil_append,Nat.mul_one,ju,y6,e1]
   unfold opR
   rw [e2,← e3]
   exact hw'.sort (by repeat constructor)
  refine qP (qB 21 130813) rfl ?_;refine oB underlying32 sizeOf3 zeroValue3 fun b63 => ?_;refine qM (Hp.Le.refl _) ?_;refine qO (i := 1) (qB 21 130815) rfl ?_;refine qaw trivial rfl underlying32 sizeOf3 (fun v48 => ?_);refine qM (Hp.Le.refl _) ?_;refine qO (i := 8) (qB 21 131071) rfl ?_;refine js trivial rfl underlying32 (vp) (by decide) rfl rfl (fun v' => (by repeat constructor)) (by repeat constructor) (by omega) (jt os) (by unfold maxLen; omega) (by omega) (fun v55 => ?_);refine qM (Hp.Le.refl _) ?_;refine qO (i := 17) (qB 21 262143) rfl ?_;refine oD underlying32 vp fun v64 => ?_;refine qM (Hp.Le.refl _) ?_;refine qT (i := 18) (qB 21 524287) (Hp.Le.refl _) rfl rfl (oV qF) ?_;refine qT (i := 19) (qB 21 1048575) (Hp.Le.refl _) rfl rfl (oF 4 underlying59 sizeOf32 qF) ?_;refine qO (i := 20) (qB 21 2097151) rfl ?_;refine vq (u := v64) (by repeat constructor) (fun hcv2 => ?_);refine qz trivial rfl rfl (hcv2).1 sizeOf32 (hcv2).2 (by repeat constructor) (by exact Nat.le_of_ble_eq_true rfl) ?_;refine qM (Hp.Le.refl _) ?_;refine qn (by kernel_rfl) ?_;refine ret0 rfl ?_;refine fun w' hw' => ⟨I,[skB b vi vl vo v43 v64,ndR v43 (ns ++ [ql c A Z]),opR v64 (os.take (os.length - k) ++ [(((ns ++ [ql c A Z]).length : Nat) : Int) - 1])],?_,Ext.refl _ _,rfl,rfl,_,_,_,_,_,rfl,by rw [List.length_append,List.length_take,List.length_singleton]; omega⟩
  have e1 : (((os.length : Nat) : Int) - ((k : Nat) : Int)).toNat = os.length - k := by omega
  have e2 : (os.take (os.length - k) ++ [(((ns ++ [ql c A Z]).length : Nat) : Int) - 1]).length = 0 + (((os.length : Nat) : Int) - ((k : Nat) : Int)).toNat + 1 := by rw [List.length_append,List.length_take,List.length_singleton,e1]; omega
  have e3 : ([] ++ (ics os).flatten.take ((((os.length : Nat) : Int) - ((k : Nat) : Int)).toNat * 1)) ++ [Value.int .i64 ((((ns ++ [ql c A Z]).length : Nat) : Int) - 1)] = (ics (os.take (os.length - k) ++ [(((ns ++ [ql c A Z]).length : Nat) : Int) - 1])).flatten := by rw [List.nil_append,Nat.mul_one,ju,y6,e1]
  unfold opR
  rw [e2,← e3]
  exact hw'.sort (by repeat constructor)
 refine qP (qB 21 130653) rfl ?_;refine oB underlying32 sizeOf3 zeroValue3 fun b63 => ?_;refine qM (Hp.Le.refl _) ?_;refine h_go [1,5] (by kernel_rfl) rfl (TWHs.cons ?_ (TWHs.cons ?_ TWHs.nil))
 ·
  refine qP (qB 21 130655) rfl ?_;refine qaw trivial rfl underlying32 sizeOf3 (fun v48 => ?_);refine qM (Hp.Le.refl _) ?_;refine qO (i := 5) (qB 21 130687) rfl ?_;refine oL isAgg32 ?_;refine qM (Hp.Le.refl _) ?_;refine qT (i := 7) (qB 21 130815) (Hp.Le.refl _) rfl rfl (qb7 trivial rfl underlying32 sizeOf3 rfl rfl (by repeat constructor) (by omega) qF) ?_;refine qO (i := 8) (qB 21 131071) rfl ?_;refine js trivial rfl underlying32 (vp) (by decide) rfl rfl (fun v' => (by repeat constructor)) (by repeat constructor) (by omega) (jt os) (by unfold maxLen; omega) (by omega) (fun v55 => ?_);refine qM (Hp.Le.refl _) ?_;refine qO (i := 17) (qB 21 262143) rfl ?_;refine oD underlying32 vp fun v64 => ?_;refine qM (Hp.Le.refl _) ?_;refine qT (i := 18) (qB 21 524287) (Hp.Le.refl _) rfl rfl (oV qF) ?_;refine qT (i := 19) (qB 21 1048575) (Hp.Le.refl _) rfl rfl (oF 4 underlying59 sizeOf32 qF) ?_;refine qO (i := 20) (qB 21 2097151) rfl ?_;refine vq (u := v64) (by repeat constructor) (fun hcv2 => ?_);refine qz trivial rfl rfl (hcv2).1 sizeOf32 (hcv2).2 (by repeat constructor) (by exact Nat.le_of_ble_eq_true rfl) ?_;refine qM (Hp.Le.refl _) ?_;refine qn (by kernel_rfl) ?_;refine ret0 rfl ?_;refine fun w' hw' => ⟨I,[skB b vi vl vo v43 v64,ndR v43 (ns ++ [ql c A Z]),opR v64 (os.take (os.length - k) ++ [(((ns ++ [ql c A Z]).length : Nat) : Int) - 1])],?_,Ext.refl _ _,rfl,rfl,_,_,_,_,_,rfl,by rw [List.length_append,List.length_take,List.length_singleton]; omega⟩
  have e1 : (((os.length : Nat) : Int) - ((k : Nat) : Int)).toNat = os.length - k := by omega
  have e2 : (os.take (os.length - k) ++ [(((ns ++ [ql c A Z]).length : Nat) : Int) - 1]).length = 0 + (((os.length : Nat) : Int) - ((k : Nat) : Int)).toNat + 1 := by rw [List.length_append,List.length_take,List.length_singleton,e1]; omega
  have e3 : ([] ++ (ics os).flatten.take ((((os.length : Nat) : Int) - ((k : Nat) : Int)).toNat * 1)) ++ [Value.int .i64 ((((ns ++ [ql c A Z]).length : Nat) : Int) - 1)] = (ics (os.take (os.length - k) ++ [(((ns ++ [ql c A Z]).length : Nat) : Int) - 1])).flatten := by rw [List.nil_append,Nat.mul_one,ju,y6,e1]
  unfold opR
  rw [e2,← e3]
  exact hw'.sort (by repeat constructor)
 refine qP (qB 21 130685) rfl ?_;refine oL isAgg32 ?_;refine qM (Hp.Le.refl _) ?_;refine qT (i := 7) (qB 21 130813) (Hp.Le.refl _) rfl rfl (qb7 trivial rfl underlying32 sizeOf3 rfl rfl (by repeat constructor) (by omega) qF) ?_;refine qO (i := 1) (qB 21 130815) rfl ?_;refine qaw trivial rfl underlying32 sizeOf3 (fun v48 => ?_);refine qM (Hp.Le.refl _) ?_;refine qO (i := 8) (qB 21 131071) rfl ?_;refine js trivial rfl underlying32 (vp) (by decide) rfl rfl (fun v' => (by repeat constructor)) (by repeat constructor) (by omega) (jt os) (by unfold maxLen; omega) (by omega) (fun v55 => ?_);refine qM (Hp.Le.refl _) ?_;refine qO (i := 17) (qB 21 262143) rfl ?_;refine oD underlying32 vp fun v64 => ?_;refine qM (Hp.Le.refl _) ?_;refine qT (i := 18) (qB 21 524287) (Hp.Le.refl _) rfl rfl (oV qF) ?_;refine qT (i := 19) (qB 21 1048575) (Hp.Le.refl _) rfl rfl (oF 4 underlying59 sizeOf32 qF) ?_;refine qO (i := 20) (qB 21 2097151) rfl ?_;refine vq (u := v64) (by repeat constructor) (fun hcv2 => ?_);refine qz trivial rfl rfl (hcv2).1 sizeOf32 (hcv2).2 (by repeat constructor) (by exact Nat.le_of_ble_eq_true rfl) ?_;refine qM (Hp.Le.refl _) ?_;refine qn (by kernel_rfl) ?_;refine ret0 rfl ?_;refine fun w' hw' => ⟨I,[skB b vi vl vo v43 v64,ndR v43 (ns ++ [ql c A Z]),opR v64 (os.take (os.length - k) ++ [(((ns ++ [ql c A Z]).length : Nat) : Int) - 1])],?_,Ext.refl _ _,rfl,rfl,_,_,_,_,_,rfl,by rw [List.length_append,List.length_take,List.length_singleton]; omega⟩
 have e1 : (((os.length : Nat) : Int) - ((k : Nat) : Int)).toNat = os.length - k := by omega
 have e2 : (os.take (os.length - k) ++ [(((ns ++ [ql c A Z]).length : Nat) : Int) - 1]).length = 0 + (((os.length : Nat) : Int) - ((k : Nat) : Int)).toNat + 1 := by rw [List.length_append,List.length_take,List.length_singleton,e1]; omega
 have e3 : ([] ++ (ics os).flatten.take ((((os.length : Nat) : Int) - ((k : Nat) : Int)).toNat * 1)) ++ [Value.int .i64 ((((ns ++ [ql c A Z]).length : Nat) : Int) - 1)] = (ics (os.take (os.length - k) ++ [(((ns ++ [ql c A Z]).length : Nat) : Int) - 1])).flatten := by rw [List.nil_append,Nat.mul_one,ju,y6,e1]
 unfold opR
 rw [e2,← e3]
 exact hw'.sort (by repeat constructor)
def knS (ins : List ByteArray) (ls : List LetC) : List ByteArray := ins ++ ls.map LetC.name
theorem qlv (ins : List ByteArray) (ls : List LetC) : (knS ins ls).length = ins.length + ls.length := by unfold knS; rw [List.length_append,List.length_map]
theorem q2b {ins : List ByteArray} {ls : List LetC} {i : Nat} {c : LetC} (h : ls[i]? = some c) : knS ins (ls.take (i + 1)) = knS ins (ls.take i) ++ [c.name] := by
 unfold knS
 rw [List.take_add_one,h,List.map_append,← List.append_assoc]; rfl
theorem qs2 (b : Nat) (vi vl vo va u : Value) (ins : List ByteArray) (ls : List LetC) {I : Hp} (hi : Slc I 1 vi (scs ins)) (hn : ins.length ≤ 100) (hl : ls.length ≤ 100) :
   Fun prog 20 [.pointer (some ⟨b,0,none⟩)] I [skB b vi vl vo va u,ltR vl ls] (fun v I' B' => I = I' ∧ B' = [skB b vi vl vo va u,ltR vl ls,nmR v (knS ins ls)]) := by
 have hsl := jf ins
 intro w hw
 refine q9 _ func20 rfl ntmps20 rfl ?_ hw;refine sR ?_;refine oV ?_;refine nS ?_;refine qaw trivial rfl underlying25 sizeOf9 (fun v5 => ?_);iterate 2 refine oV ?_
 refine oF 0 underlying59 sizeOf29 ?_;refine oF 0 underlying29 sizeOf25 ?_;refine oL isAgg25 ?_;refine oE underlying25 qci (hi) (q18 _) fun v11 => ?_;refine oV ?_;refine nU ?_;refine oV ?_;refine oN (tC (cB ?_))
 refine qu (ι := Nat × Value) [0] (.cons rfl .nil) (fun x => ls.length - x.1) (fun x E0 => (3, x.2) :: (4, .int .i64 (x.1 : Nat)) :: E0) (fun x => St w (je [skB b vi vl vo va u, ltR vl ls]) I [nmR x.2 (knS ins (ls.take x.1)), skB b vi vl vo va u, ltR vl ls]) (fun x => x.1 ≤ ls.length) ((0, v11)) (sC rfl (sC rfl (sC rfl sN))) (fun _ h => by
   have e : knS ins (ls.take 0) = ins := by unfold knS; rw [List.take_zero,List.map_nil,List.append_nil]
   rw [Nat.zero_add,List.nil_append,hsl] at h
   unfold nmR; rw [e]
   exact h.sort (by repeat constructor)) (Nat.zero_le _) ?_
 rintro ⟨i,uo⟩ hil
 try dsimp only
 simp only at hil
 refine cS (sR ?_);iterate 3 refine oV ?_
 refine oF 0 underlying59 sizeOf29 ?_;refine oF 1 underlying29 sizeOf26 ?_;refine oL isAgg26 ?_;refine yi trivial rfl underlying26 rfl (by repeat constructor) ?_;refine oV ?_;refine nT ?_;refine cC rfl (fun h1 => ?_) (fun h1 => ?_)
 ·
  have f1 := h1;try simp only [bl] at f1
  obtain ⟨c,hc⟩ : ∃ c,ls[i]? = some c := ⟨ls[i]'(by omega),List.getElem?_eq_getElem (by omega)⟩
  have hkl := qlv ins (ls.take i)
  rw [List.length_take] at hkl
  refine cK (tC (cS (cB (cR ?_))));iterate 3 refine oV ?_
  refine oF 0 underlying59 sizeOf29 ?_;refine oF 1 underlying29 sizeOf26 ?_;refine oL isAgg26 ?_;refine oV ?_;refine yp trivial rfl underlying26 sizeOf72 rfl (by repeat constructor) rfl (by omega) ?_;refine oF 0 underlying72 sizeOf9 ?_;refine jl trivial rfl isAgg9 (by repeat constructor) rfl (qjq (qqu ls) i _ (by rw [List.getElem?_map,hc]; rfl) 0 _ rfl) ?_;refine oB underlying25 sizeOf9 zeroValue9 fun b32 => ?_;refine oD underlying25 qci fun v33 => ?_;refine oV ?_;refine oN (qe (tC (cR ?_)));refine oV ?_
  (refine qf trivial rfl rfl rfl ?_ ?_; (omega))
  refine oV ?_;refine oN ?_;exact qj (i + 1,v33) (sC rfl (sC rfl (sC rfl sN))) (fun _ h => by unfold nmR; rw [q2b hc,qf9,List.length_append]; exact h.sort (by repeat constructor)) (by show ls.length - (i + 1) < ls.length - i; omega) (by show i + 1 ≤ _; omega)
 have f1 := h1;try simp only [bl] at f1
 refine qq (qc (qc (qp rfl (tC (sR ?_)))));iterate 2 refine oV ?_
 refine nE ?_;refine ret1 rfl rfl ?_;refine fun w' hw' => ⟨I,[skB b vi vl vo va u,ltR vl ls,nmR uo (knS ins ls)],?_,Ext.refl _ _,rfl,rfl⟩
 rw [List.take_of_length_le (by omega)] at hw'
 exact hw'.sort (by repeat constructor)
def qs3 (b : Nat) (vi vo : Value) (n : Nat) (v : Value) (I' : Hp) (B' : List Tw.Item) : Prop := v = .tuple #[] ∧ ∃ vl va u ls ns os,B' = [skB b vi vl vo va u,ltR vl ls,ndR va ns,opR u os] ∧ qa9 I' ls ns os n
def opN (k e : Int) : qk := ⟨⟨k,0,0,e,⟨#[]⟩,false,[],[]⟩,N0,N0⟩
theorem qc2 {I : Hp} (k e : Int) : (opN k e).ok I := ⟨Ws.nil _,Ws.nil _⟩
theorem qid (k e : Int) : (opN k e).c.few 3000 := ⟨Nat.zero_le _,Nat.zero_le _⟩
theorem qs4 (b : Nat) (vi vl vo va u : Value) (ls : List LetC) (ns : List qk) (os : List Int) (n : Nat) {I : Hp} (h : qa9 I ls ns os n) (hn : n ≤ 500) :
   Fun prog 19 [.pointer (some ⟨b,0,none⟩)] I [skB b vi vl vo va u,ltR vl ls,ndR va ns,opR u os] (qs3 b vi vo n) := by
 have hls := h.lets
 intro w hw
 refine q9 _ func19 rfl ntmps19 rfl ?_ hw;refine cS (cB ?_);refine qu (ι := List qk × List Int × Value × Value) [0] (.cons rfl .nil) (fun x => x.2.1.length) (fun x E0 => E0) (fun x => St w (je [skB b vi vl vo va u,ltR vl ls,ndR va ns,opR u os]) I [skB b vi vl vo x.2.2.1 x.2.2.2,ltR vl ls,ndR x.2.2.1 x.1,opR x.2.2.2 x.2.1]) (fun x => qa9 I ls x.1 x.2.1 n) ((ns,os,va,u)) (sC rfl sN) (fun _ h => h) (h) ?_;rintro ⟨n1,o1,ua,uu⟩ h1k
 try dsimp only
 simp only at h1k; have hsum := h1k.sum
 refine cS (sR ?_);iterate 2 refine oV ?_
 refine oF 4 underlying59 sizeOf32 ?_;refine oL isAgg32 ?_;refine yi trivial rfl underlying32 rfl (by repeat constructor) ?_;refine oV ?_;refine nT ?_;refine cC rfl (fun h1 => ?_) (fun h1 => ?_)
 ·
  have f1 := h1;try simp only [bl] at f1
  refine cK (tC (cB (cR ?_)));refine oV ?_;refine vg trivial rfl (qd6) rfl (.cons rfl rfl rfl (by repeat constructor) .nil) ?_;refine oC trivial rfl call35 rfl (qfb b vi vl vo ua uu (opN 2 0) n1 o1 2 (qc2 _ _) (by omega) (by omega) (by omega)) (by repeat constructor) ?_;rintro _ _ _ hx ⟨rfl,rfl,va2,u2,A2,Z2,o2,rfl,hlen⟩;refine oN (qe ?_);exact qj (n1 ++ [ql (opN 2 0) A2 Z2],o2,va2,u2) (sC rfl sN) (fun _ h => h.sort (by repeat constructor)) (by show o2.length < o1.length; omega) (h1k.put (qc2 _ _) (qid _ _) hlen (Nat.le_refl _))
 have f1 := h1;try simp only [bl] at f1
 refine qq (qc (qc (qp rfl (tC (sR ?_)))));iterate 2 refine oV ?_
 refine oF 4 underlying59 sizeOf32 ?_;refine oL isAgg32 ?_;refine yi trivial rfl underlying32 rfl (by repeat constructor) ?_;refine oV ?_;refine' oY (fun hb19 => ?_) ?_;rotate_left
 ·
  have fb19 := hb19
  try simp only [bl] at fb19
  iterate 2 refine gV hb19 ?_
  refine gF hb19 0 underlying59 sizeOf29 ?_;refine gF hb19 1 underlying29 sizeOf26 ?_;refine gL hb19 isAgg26 ?_;refine yi (wS rfl rfl hb19) rfl underlying26 rfl (by repeat constructor) ?_;refine gV hb19 ?_;refine oN ?_;exact qa rfl
 refine nT ?_;refine cC rfl (fun h2 => ?_) (fun h2 => ?_)
 ·
  have f2 := h2;try simp only [bl] at f2
  obtain ⟨z,rfl⟩ : ∃ z,o1 = [z] := by
    have hl1 : o1.length = 1 := by omega
    match o1,hl1 with
    | [z],_ => exact ⟨z,rfl⟩
  refine sR ?_;refine oV ?_;refine nS ?_;iterate 2 refine oV ?_
  refine oF 0 underlying59 sizeOf29 ?_;refine oF 1 underlying29 sizeOf26 ?_;refine oL isAgg26 ?_;refine yi trivial rfl underlying26 rfl (by repeat constructor) ?_;refine oV ?_;refine oN (tC (cS ?_));refine yb (m := 24) [opR uu [z]] (by repeat constructor) (by kernel_rfl) rfl ?_;refine qT (i := 0) (qB 24 1) (Hp.Le.refl _) rfl rfl (oV qF) ?_;refine qT (i := 1) (qB 24 3) (Hp.Le.refl _) rfl rfl (oV qF) ?_;refine qT (i := 2) (qB 24 7) (Hp.Le.refl _) rfl rfl (oV qF) ?_;refine qT (i := 3) (qB 24 15) (Hp.Le.refl _) rfl rfl (oF 0 underlying59 sizeOf29 qF) ?_;refine qT (i := 4) (qB 24 31) (Hp.Le.refl _) rfl rfl (oF 1 underlying29 sizeOf26 qF) ?_;refine qT (i := 6) (qB 24 95) (Hp.Le.refl _) rfl rfl (oV qF) ?_;refine qT (i := 7) (qB 24 223) (Hp.Le.refl _) rfl rfl (oV qF) ?_;refine qT (i := 8) (qB 24 479) (Hp.Le.refl _) rfl rfl (oV qF) ?_;refine' qT (i := 9) (qB 24 991) (Hp.Le.refl _) rfl rfl ?hh0 ?kk0
  case hh0 =>
   (refine qf trivial rfl rfl rfl ?_ ?_; (omega))
   exact qF
  refine qT (i := 10) (qB 24 2015) (Hp.Le.refl _) rfl rfl (qmb trivial rfl underlying9 rfl rfl rfl (by have e8 : ByteArray.size ⟨#[97,98,99,100,101,102,103,104]⟩ = 8 := rfl; omega) qF) ?_;refine qT (i := 11) (qB 24 4063) (Hp.Le.refl _) rfl rfl (oV qF) ?_;refine qT (i := 12) (qB 24 8159) (Hp.Le.refl _) rfl rfl (oV qF) ?_;refine qT (i := 13) (qB 24 16351) (Hp.Le.refl _) rfl rfl (oF 4 underlying59 sizeOf32 qF) ?_;refine h_go [5,14] (by kernel_rfl) rfl (TWHs.cons ?_ (TWHs.cons ?_ TWHs.nil))
  ·
   refine qP (qB 24 16383) rfl ?_;refine oL isAgg26 ?_;refine qM (Hp.Le.refl _) ?_;refine qO (i := 14) (qB 24 32767) rfl ?_;refine oL isAgg32 ?_;refine qM (Hp.Le.refl _) ?_;refine qT (i := 15) (qB 24 65535) (Hp.Le.refl _) rfl rfl (yp trivial rfl underlying32 sizeOf3 rfl (by repeat constructor) rfl (by omega) qF) ?_;refine qT (i := 16) (qB 24 131071) (Hp.Le.refl _) rfl rfl (jl trivial rfl isAgg3 (by repeat constructor) rfl (rfl) qF) ?_;refine qT (i := 17) (qB 24 262143) (Hp.Le.refl _) rfl rfl (vg trivial rfl (qm8) rfl (.cons rfl rfl rfl (by repeat constructor) (.cons rfl rfl rfl (by repeat constructor) .nil)) qF) ?_;refine qO (i := 18) (qB 24 524287) rfl ?_;refine oB underlying26 sizeOf72 zeroValue72 fun b52 => ?_;refine qM (Hp.Le.refl _) ?_;refine qO (i := 19) (qB 24 1048575) rfl ?_;refine oD underlying26 qjf fun v53 => ?_;refine qM (Hp.Le.refl _) ?_;refine qT (i := 20) (qB 24 2097151) (Hp.Le.refl _) rfl rfl (oV qF) ?_;refine qT (i := 21) (qB 24 4194303) (Hp.Le.refl _) rfl rfl (oF 0 underlying59 sizeOf29 qF) ?_;refine qT (i := 22) (qB 24 8388607) (Hp.Le.refl _) rfl rfl (oF 1 underlying29 sizeOf26 qF) ?_;refine qO (i := 23) (qB 24 16777215) rfl ?_;refine vq (u := v53) (by repeat constructor) (fun hcv => ?_);refine qz trivial rfl rfl (hcv).1 sizeOf26 (hcv).2 (by repeat constructor) (by exact Nat.le_of_ble_eq_true rfl) ?_;refine qM (Hp.Le.refl _) ?_;refine qn (by kernel_rfl) ?_
   refine tC (cR ?_);iterate 2 refine oV ?_
   refine oF 4 underlying59 sizeOf32 ?_;refine oS sizeOf32 ?_;refine oN ?_;refine ret0 rfl ?_;refine fun w' hw' => ⟨I,[skB b vi v53 vo ua N0,ltR v53 (ls ++ [⟨ByteArray.extract ⟨#[97,98,99,100,101,102,103,104]⟩ ((ls.length : Nat) : Int).toNat (((ls.length : Nat) : Int) + 1).toNat,z⟩]),ndR ua n1,opR N0 []],?_,Ext.refl _ _,rfl,_,_,_,_,_,_,rfl,⟨by rw [List.length_append,List.length_singleton]; omega,h1k.ok,h1k.few,by have := h1k.sum; simp only [List.length_nil,List.length_cons] at this ⊢; omega⟩⟩
   unfold ltR
   rw [List.length_append,qku]
   exact (hw'.nilRow 3 1).sort (by repeat constructor)
  refine qP (qB 24 32735) rfl ?_;refine oL isAgg32 ?_;refine qM (Hp.Le.refl _) ?_;refine qT (i := 15) (qB 24 65503) (Hp.Le.refl _) rfl rfl (yp trivial rfl underlying32 sizeOf3 rfl (by repeat constructor) rfl (by omega) qF) ?_;refine qT (i := 16) (qB 24 131039) (Hp.Le.refl _) rfl rfl (jl trivial rfl isAgg3 (by repeat constructor) rfl (rfl) qF) ?_;refine qT (i := 17) (qB 24 262111) (Hp.Le.refl _) rfl rfl (vg trivial rfl (qm8) rfl (.cons rfl rfl rfl (by repeat constructor) (.cons rfl rfl rfl (by repeat constructor) .nil)) qF) ?_;refine h_go [5,18] (by kernel_rfl) rfl (TWHs.cons ?_ (TWHs.cons ?_ TWHs.nil))
  ·
   refine qP (qB 24 262143) rfl ?_;refine oL isAgg26 ?_;refine qM (Hp.Le.refl _) ?_;refine qO (i := 18) (qB 24 524287) rfl ?_;refine oB underlying26 sizeOf72 zeroValue72 fun b52 => ?_;refine qM (Hp.Le.refl _) ?_;refine qO (i := 19) (qB 24 1048575) rfl ?_;refine oD underlying26 qjf fun v53 => ?_;refine qM (Hp.Le.refl _) ?_;refine qT (i := 20) (qB 24 2097151) (Hp.Le.refl _) rfl rfl (oV qF) ?_;refine qT (i := 21) (qB 24 4194303) (Hp.Le.refl _) rfl rfl (oF 0 underlying59 sizeOf29 qF) ?_;refine qT (i := 22) (qB 24 8388607) (Hp.Le.refl _) rfl rfl (oF 1 underlying29 sizeOf26 qF) ?_;refine qO (i := 23) (qB 24 16777215) rfl ?_;refine vq (u := v53) (by repeat constructor) (fun hcv => ?_);refine qz trivial rfl rfl (hcv).1 sizeOf26 (hcv).2 (by repeat constructor) (by exact Nat.le_of_ble_eq_true rfl) ?_;refine qM (Hp.Le.refl _) ?_;refine qn (by kernel_rfl) ?_;refine tC (cR ?_);iterate 2 refine oV ?_
   refine oF 4 underlying59 sizeOf32 ?_;refine oS sizeOf32 ?_;refine oN ?_;refine ret0 rfl ?_;refine fun w' hw' => ⟨I,[skB b vi v53 vo ua N0,ltR v53 (ls ++ [⟨ByteArray.extract ⟨#[97,98,99,100,101,102,103,104]⟩ ((ls.length : Nat) : Int).toNat (((ls.length : Nat) : Int) + 1).toNat,z⟩]),ndR ua n1,opR N0 []],?_,Ext.refl _ _,rfl,_,_,_,_,_,_,rfl,⟨by rw [List.length_append,List.length_singleton]; omega,h1k.ok,h1k.few,by have := h1k.sum; simp only [List.length_nil,List.length_cons] at this ⊢; omega⟩⟩
   unfold ltR
   rw [List.length_append,qku]
   exact (hw'.nilRow 3 1).sort (by repeat constructor)
  refine qP (qB 24 524255) rfl ?_;refine oB underlying26 sizeOf72 zeroValue72 fun b52 => ?_;refine qM (Hp.Le.refl _) ?_;refine qO (i := 5) (qB 24 524287) rfl ?_;refine oL isAgg26 ?_;refine qM (Hp.Le.refl _) ?_;refine qO (i := 19) (qB 24 1048575) rfl ?_;refine oD underlying26 qjf fun v53 => ?_;refine qM (Hp.Le.refl _) ?_;refine qT (i := 20) (qB 24 2097151) (Hp.Le.refl _) rfl rfl (oV qF) ?_;refine qT (i := 21) (qB 24 4194303) (Hp.Le.refl _) rfl rfl (oF 0 underlying59 sizeOf29 qF) ?_;refine qT (i := 22) (qB 24 8388607) (Hp.Le.refl _) rfl rfl (oF 1 underlying29 sizeOf26 qF) ?_;refine qO (i := 23) (qB 24 16777215) rfl ?_;refine vq (u := v53) (by repeat constructor) (fun hcv => ?_);refine qz trivial rfl rfl (hcv).1 sizeOf26 (hcv).2 (by repeat constructor) (by exact Nat.le_of_ble_eq_true rfl) ?_;refine qM (Hp.Le.refl _) ?_;refine qn (by kernel_rfl) ?_;refine tC (cR ?_);iterate 2 refine oV ?_
  refine oF 4 underlying59 sizeOf32 ?_;refine oS sizeOf32 ?_;refine oN ?_;refine ret0 rfl ?_;refine fun w' hw' => ⟨I,[skB b vi v53 vo ua N0,ltR v53 (ls ++ [⟨ByteArray.extract ⟨#[97,98,99,100,101,102,103,104]⟩ ((ls.length : Nat) : Int).toNat (((ls.length : Nat) : Int) + 1).toNat,z⟩]),ndR ua n1,opR N0 []],?_,Ext.refl _ _,rfl,_,_,_,_,_,_,rfl,⟨by rw [List.length_append,List.length_singleton]; omega,h1k.ok,h1k.few,by have := h1k.sum; simp only [List.length_nil,List.length_cons] at this ⊢; omega⟩⟩
  unfold ltR
  rw [List.length_append,qku]
  exact (hw'.nilRow 3 1).sort (by repeat constructor)
 have f2 := h2;try simp only [bl] at f2
 refine cK ?_;refine ret0 rfl ?_;exact fun w' hw' => ⟨I,[skB b vi vl vo ua uu,ltR vl ls,ndR ua n1,opR uu o1],hw'.sort (by repeat constructor),Ext.refl _ _,rfl,_,_,_,_,_,_,rfl,h1k⟩
structure TrC where
 op : Int
 n : Int
 d : Int
def TrC.cells (t : TrC) : List Value := [.int .u8 t.op,.int .u8 t.n,.int .u8 t.d]
structure TrC.ok (t : TrC) : Prop where
 op : 0 ≤ t.op ∧ t.op ≤ 255
 n : 0 ≤ t.n ∧ t.n ≤ 255
 d : 0 ≤ t.d ∧ t.d ≤ 255
structure TrV (I : Hp) (v : Value) (ts : List TrC) : Prop where
 s : Slc I 3 v (ts.map TrC.cells)
 ok : ∀ t ∈ ts,t.ok
theorem TrV.le {I I' : Hp} {v : Value} {ts : List TrC} (h : TrV I v ts) (hl : I.Le I') : TrV I' v ts := ⟨h.s.le hl,h.ok⟩
theorem TrV.at_ {I : Hp} {v : Value} {ts : List TrC} (h : TrV I v ts) {i : Nat} {t : TrC} (ht : ts[i]? = some t) : ∀ k y, ([.int .u8 t.op, .int .u8 t.n, .int .u8 t.d] : List Value)[k]? = some y → I.cell? ⟨slcB v, slcO v + i * 3 + k, none⟩ = some y :=
 h.s.cells i _ (by rw [List.getElem?_map,ht]; rfl)
def nmN (s : ByteArray) : qk := ⟨⟨0,0,0,0,s,false,[],[]⟩,N0,N0⟩
theorem qs5 {I : Hp} (s : ByteArray) : (nmN s).ok I := ⟨Ws.nil _,Ws.nil _⟩
theorem q2c (s : ByteArray) : (nmN s).c.few 3000 := ⟨Nat.zero_le _,Nat.zero_le _⟩
def qN (q : Rat) (vn vd : Value) : qk := ⟨⟨1,0,0,0,⟨#[]⟩,decide (q.num < 0),natW q.num.natAbs,natW q.den⟩,vn,vd⟩
theorem q2d {q : Rat} {vn vd : Value} (h : BdQ 1 q) : (qN q vn vd).c.few 3000 := ⟨(qen h).1,(qen h).2⟩
theorem q2e (b : Nat) (vi vl vo va u : Value) (ins : List ByteArray) (ls : List LetC) (ns : List qk) (os : List Int) (n : Nat) (t : TrC) {I : Hp} (hi : Slc I 1 vi (scs ins)) (hil : 1 ≤ ins.length ∧ ins.length ≤ 3) (h : qa9 I ls ns os n) (hn : n ≤ 400) (ht : t.ok) :
   Fun prog 18 [.pointer (some ⟨b,0,none⟩),.agg #[.int .u8 t.op,.int .u8 t.n,.int .u8 t.d]] I [skB b vi vl vo va u,ltR vl ls,ndR va ns,opR u os] (qs3 b vi vo (n + 2)) := by
 have hls := h.lets
 have hsum := h.sum
 have hkl := qlv ins ls
 obtain ⟨⟨t1,t2⟩,⟨t3,t4⟩,⟨t5,t6⟩⟩ := ht
 have hm8 : 0 ≤ t.op % 8 ∧ t.op % 8 < 8 := ⟨Int.emod_nonneg _ (by decide),Int.emod_lt_of_pos _ (by decide)⟩
 have hm7 : 0 ≤ t.n % 7 ∧ t.n % 7 < 7 := ⟨Int.emod_nonneg _ (by decide),Int.emod_lt_of_pos _ (by decide)⟩
 have hm100 : 0 ≤ t.n % 100 ∧ t.n % 100 < 100 := ⟨Int.emod_nonneg _ (by decide),Int.emod_lt_of_pos _ (by decide)⟩
 have hm9 : 0 ≤ t.d % 9 ∧ t.d % 9 < 9 := ⟨Int.emod_nonneg _ (by decide),Int.emod_lt_of_pos _ (by decide)⟩
 have hmk : 0 ≤ t.n % (((knS ins ls).length : Nat) : Int) ∧ t.n % (((knS ins ls).length : Nat) : Int) < ((knS ins ls).length : Nat) := qpd (by omega)
 have hd9 : t.d % 9 = (((t.d % 9).toNat : Nat) : Int) := by omega
 intro w hw
 refine qv _ func18 rfl ntmps18 rfl ?_ hw;refine sR ?_;refine qo trivial rfl rfl rfl (fun b3 => ?_);refine nS ?_;refine oF 0 underlying62 sizeOf5 ?_;refine oL isAgg5 ?_;refine j6 trivial rfl rfl rfl (by omega) ?_;refine ya trivial rfl underlying5 underlying3 rfl (by rw [IntWalk.i64_in _ (by omega)]) ?_;refine oV ?_;refine oN (tC (cB (sR ?_)));refine oF 0 underlying62 sizeOf5 ?_;refine oL isAgg5 ?_;refine oV ?_;refine' oY (fun hb29 => ?_) ?_;rotate_left
 ·
  have fb29 := hb29
  try simp only [bl] at fb29
  iterate 2 refine gV hb29 ?_
  refine gF hb29 0 underlying59 sizeOf29 ?_;refine gF hb29 1 underlying29 sizeOf26 ?_;refine gL hb29 isAgg26 ?_;refine yi (wS rfl rfl hb29) rfl underlying26 rfl (by repeat constructor) ?_;refine gV hb29 ?_;refine oN ?_;exact qa rfl
 refine oV ?_;refine nT ?_;refine cC rfl (fun h1 => ?_) (fun h1 => ?_)
 ·
  have f1 := h1;try simp only [bl] at f1
  refine cR ?_;refine oV ?_;refine oC trivial rfl call19 rfl (qs4 b vi vl vo va u ls ns os n h (by omega)) (by repeat constructor) ?_;rintro _ I1 _ hx ⟨rfl,vl',va',u',ls',ns',os',rfl,hk⟩;refine oN (qe ?_);refine ret0 rfl ?_;exact fun w' hw' => ⟨I1,[skB b vi vl' vo va' u',ltR vl' ls',ndR va' ns',opR u' os'],hw'.sort (by repeat constructor),hx,rfl,_,_,_,_,_,_,rfl,hk.le (Hp.Le.refl _) (by omega)⟩
 have f1 := h1;try simp only [bl] at f1
 refine sR ?_;iterate 2 refine oV ?_
 refine' oY (fun hb43 => ?_) ?_;rotate_left
 ·
  iterate 2 refine gV hb43 ?_
  refine oN ?_;exact qa rfl
 refine' oY (fun hb47 => ?_) ?_;rotate_left
 ·
  have fb47 := hb47
  try simp only [bl] at fb47
  iterate 2 refine gV hb47 ?_
  refine gF hb47 4 underlying59 sizeOf32 ?_;refine gL hb47 isAgg32 ?_;refine yi (wS rfl rfl hb47) rfl underlying32 rfl (by repeat constructor) ?_;refine gV hb47 ?_;refine oN ?_;exact qa rfl
 refine oV ?_;refine nT ?_;refine cC rfl (fun h2 => ?_) (fun h2 => ?_)
 ·
  have f2 := h2;try simp only [bl] at f2
  refine cR ?_;iterate 2 refine oV ?_
  refine vg trivial rfl (qd6) rfl (.cons rfl rfl rfl (by repeat constructor) .nil) ?_;refine oC trivial rfl call35 rfl (qfb b vi vl vo va u (opN (t.op % 8) 0) ns os 2 (qc2 _ _) (by omega) (by omega) (by omega)) (by repeat constructor) ?_;rintro _ _ _ hx ⟨rfl,rfl,va',u',A,Z,os',rfl,hlen⟩;refine oN (qe ?_);refine ret0 rfl ?_;exact fun w' hw' => ⟨I,[skB b vi vl vo va' u',ltR vl ls,ndR va' (ns ++ [ql (opN (t.op % 8) 0) A Z]),opR u' os'],hw'.sort (by repeat constructor),Ext.refl _ _,rfl,_,_,_,_,_,_,rfl,h.put (qc2 _ _) (qid _ _) hlen (by omega)⟩
 have f2 := h2;try simp only [bl] at f2
 refine sR ?_;iterate 2 refine oV ?_
 refine' oY (fun hb62 => ?_) ?_;rotate_left
 ·
  have fb62 := hb62
  try simp only [bl] at fb62
  iterate 2 refine gV hb62 ?_
  refine gF hb62 4 underlying59 sizeOf32 ?_;refine gL hb62 isAgg32 ?_;refine yi (wS rfl rfl hb62) rfl underlying32 rfl (by repeat constructor) ?_;refine gV hb62 ?_;refine oN ?_;exact qa rfl
 refine oV ?_;refine nT ?_;refine cC rfl (fun h3 => ?_) (fun h3 => ?_)
 ·
  have f3 := h3;try simp only [bl] at f3
  refine cR ?_;refine oV ?_;refine vg trivial rfl (qd6) rfl (.cons rfl rfl rfl (by repeat constructor) .nil) ?_;refine oC trivial rfl call35 rfl (qfb b vi vl vo va u (opN 6 0) ns os 1 (qc2 _ _) (by omega) (by omega) (by omega)) (by repeat constructor) ?_;rintro _ _ _ hx ⟨rfl,rfl,va',u',A,Z,os',rfl,hlen⟩;refine oN (qe ?_);refine ret0 rfl ?_;exact fun w' hw' => ⟨I,[skB b vi vl vo va' u',ltR vl ls,ndR va' (ns ++ [ql (opN 6 0) A Z]),opR u' os'],hw'.sort (by repeat constructor),Ext.refl _ _,rfl,_,_,_,_,_,_,rfl,h.put (qc2 _ _) (qid _ _) hlen (by omega)⟩
 have f3 := h3;try simp only [bl] at f3
 refine sR ?_;iterate 2 refine oV ?_
 refine' oY (fun hb76 => ?_) ?_;rotate_left
 ·
  have fb76 := hb76
  try simp only [bl] at fb76
  iterate 2 refine gV hb76 ?_
  refine gF hb76 4 underlying59 sizeOf32 ?_;refine gL hb76 isAgg32 ?_;refine yi (wS rfl rfl hb76) rfl underlying32 rfl (by repeat constructor) ?_;refine gV hb76 ?_;refine oN ?_;exact qa rfl
 refine oV ?_;refine nT ?_;refine cC rfl (fun h4 => ?_) (fun h4 => ?_)
 ·
  have f4 := h4;try simp only [bl] at f4
  refine cR ?_;refine oV ?_;refine oF 1 underlying62 sizeOf5 ?_;refine oL isAgg5 ?_;refine j6 trivial rfl rfl rfl (by omega) ?_;refine ya trivial rfl underlying5 underlying3 rfl (by rw [IntWalk.i64_in _ (by omega)]) ?_
  (refine vy trivial rfl rfl rfl ?_ ?_; (omega))
  refine vg trivial rfl (qd6) rfl (.cons rfl rfl rfl (by repeat constructor) (.cons rfl rfl rfl (by repeat constructor) .nil)) ?_;refine oC trivial rfl call35 rfl (qfb b vi vl vo va u (opN 7 (t.n % 7 - 3)) ns os 1 (qc2 _ _) (by omega) (by omega) (by omega)) (by repeat constructor) ?_;rintro _ _ _ hx ⟨rfl,rfl,va',u',A,Z,os',rfl,hlen⟩;refine oN (qe ?_);refine ret0 rfl ?_;exact fun w' hw' => ⟨I,[skB b vi vl vo va' u',ltR vl ls,ndR va' (ns ++ [ql (opN 7 (t.n % 7 - 3)) A Z]),opR u' os'],hw'.sort (by repeat constructor),Ext.refl _ _,rfl,_,_,_,_,_,_,rfl,h.put (qc2 _ _) (qid _ _) hlen (by omega)⟩
 have f4 := h4;try simp only [bl] at f4
 refine sR ?_;iterate 3 refine oV ?_
 refine nT ?_;refine cC rfl (fun h5 => ?_) (fun h5 => ?_)
 ·
  have f5 := h5;try simp only [bl] at f5
  refine sR ?_;refine oF 1 underlying62 sizeOf5 ?_;refine oL isAgg5 ?_;refine j6 trivial rfl rfl rfl (by omega) ?_;refine ya trivial rfl underlying5 underlying55 rfl (by rw [IntWalk.i8_in _ (by omega)]) ?_;refine oF 2 underlying62 sizeOf5 ?_;refine oL isAgg5 ?_;refine j6 trivial rfl rfl rfl (by omega) ?_
  rw [hd9]
  refine oI call16 rfl (qem (t.n % 100) (t.d % 9).toNat (by omega) (by omega)) ?_;rintro _ I1 hx1 ⟨u1,u2,rfl,k1,k2⟩;refine qh trivial rfl zeroValue48 rfl (fun b5 => ?_);refine oS sizeOf48 ?_;refine nR ?_;refine oV ?_;refine oA isAgg48 sizeOf48 ?_;refine vg trivial rfl (qd6) rfl (.cons rfl rfl rfl (by repeat constructor) (.cons rfl rfl rfl (by repeat constructor) .nil)) ?_;refine oC trivial rfl call35 rfl (qfb b vi vl vo va u (qN (mkRat (t.n % 100) ((t.d % 9).toNat + 1)) u1 u2) ns os 0 ⟨k1,k2⟩ (by omega) (by omega) (by omega)) (by repeat constructor) ?_;rintro _ _ _ hx ⟨rfl,rfl,va',u',A,Z,os',rfl,hlen⟩;refine oN (qe ?_);refine ret0 rfl ?_;exact fun w' hw' => ⟨I1,[skB b vi vl vo va' u',ltR vl ls,ndR va' (ns ++ [ql (qN (mkRat (t.n % 100) ((t.d % 9).toNat + 1)) u1 u2) A Z]),opR u' os'],hw'.sort (by repeat constructor),hx1,rfl,_,_,_,_,_,_,rfl,(h.le hx1.le (Nat.le_refl _)).put ⟨k1,k2⟩ (q2d (qdh (by omega) (by omega))) hlen (by omega)⟩
 have f5 := h5;try simp only [bl] at f5
 refine sR ?_;refine oV ?_;refine oC trivial rfl call20 rfl (qs2 b vi vl vo va u ins ls hi (by omega) (by omega)) (by repeat constructor) ?_;rintro v12 _ _ hx1 ⟨rfl,rfl⟩;refine oV ?_;refine nT ?_
 obtain ⟨s,hs⟩ : ∃ s,(knS ins ls)[(t.n % (((knS ins ls).length : Nat) : Int)).toNat]? = some s := ⟨_,List.getElem?_eq_getElem (by omega)⟩
 refine cR ?_;iterate 2 refine oV ?_
 refine oF 1 underlying62 sizeOf5 ?_;refine oL isAgg5 ?_;refine ya trivial rfl underlying5 underlying3 rfl (by rw [IntWalk.i64_in _ (by omega)]) ?_;refine oV ?_;refine yi trivial rfl underlying25 rfl (by repeat constructor) ?_;refine j6 trivial rfl rfl rfl (by omega) ?_;refine yp trivial rfl underlying25 sizeOf9 rfl (by repeat constructor) rfl (by omega) ?_;refine jl trivial rfl isAgg9 (by repeat constructor) rfl (by rw [Nat.mul_one]; exact q2a hs) ?_;refine vg trivial rfl (qd6) rfl (.cons rfl rfl rfl (by repeat constructor) (.cons rfl rfl rfl (by repeat constructor) .nil)) ?_;refine oC trivial rfl call35 rfl (qfb b vi vl vo va u (nmN s) ns os 0 (qs5 _) (by omega) (by omega) (by omega)) (by repeat constructor) ?_;rintro _ _ _ hx ⟨rfl,rfl,va',u',A,Z,os',rfl,hlen⟩;refine oN (qe ?_);refine ret0 rfl ?_;exact fun w' hw' => ⟨I,[skB b vi vl vo va' u',ltR vl ls,ndR va' (ns ++ [ql (nmN s) A Z]),opR u' os'],hw'.sort (by repeat constructor),Ext.refl _ _,rfl,_,_,_,_,_,_,rfl,h.put (qs5 _) (q2c _) hlen (by omega)⟩
theorem q2f (ins outs : Int) (vt : Value) (ts : List TrC) {I : Hp} (hi : 0 ≤ ins ∧ ins ≤ 255) (ho : 0 ≤ outs ∧ outs ≤ 255) (ht : TrV I vt ts) :
   Fun prog 5 [.int .u8 ins,.int .u8 outs,vt] I [] (fun v I' _ => ∃ vi vl vo va p ns,v = .agg #[vi,vl,vo,va] ∧ y5 I' vi vl vo va p ns ∧ ∀ o ∈ ns,o.c.few 3000) := by
 have htl : (ts.map TrC.cells).length = ts.length := List.length_map _
 have hm3 : 0 ≤ ins % 3 ∧ ins % 3 < 3 := ⟨Int.emod_nonneg _ (by decide),Int.emod_lt_of_pos _ (by decide)⟩
 have hm4 : 0 ≤ outs % 3 ∧ outs % 3 < 3 := ⟨Int.emod_nonneg _ (by decide),Int.emod_lt_of_pos _ (by decide)⟩
 intro w hw
 refine j5 _ func5 rfl ntmps5 rfl ?_ hw;refine sR ?_;refine qh trivial rfl zeroValue29 rfl (fun b6 => ?_);refine nS ?_;refine oV ?_;refine nS ?_;refine vg trivial rfl (qu8) rfl .nil ?_;refine qo trivial rfl rfl rfl (fun b14 => ?_);refine oV ?_;refine nU ?_;refine oV ?_;refine oN (tC (cB ?_));refine qu (ι := List ByteArray × Value) [0,1,2,6,7,8] (.cons rfl (.cons rfl (.cons rfl (.cons rfl (.cons rfl (.cons rfl .nil)))))) (fun x => 4 - x.1.length) (fun x E0 => (9,.int .i64 (x.1.length : Nat)) :: E0) (fun x => St w [] I [nmR x.2 x.1,skB b14 x.2 N0 N0 N0 N0,.box b6 (.cells #[N0,N0,N0,N0] 29 (0,0))]) (fun x => (x.1.length : Int) ≤ ins % 3 + 1) (([],N0)) (sC rfl (sC rfl (sC rfl (sC rfl (sC rfl (sC rfl (sC rfl sN))))))) (fun _ h => (h.nilRow 9 1).sort (by repeat constructor)) ((by show (((0 : Nat)) : Int) ≤ _; omega)) ?_;rintro ⟨l,vi⟩ hl
 try dsimp only
 simp only at hl
 refine cS (sR ?_);iterate 2 refine oV ?_
 refine j6 trivial rfl rfl rfl (by omega) ?_;refine ya trivial rfl underlying5 underlying3 rfl (by rw [IntWalk.i64_in _ (by omega)]) ?_;refine oV ?_;refine nT ?_;refine cC rfl (fun h1 => ?_) (fun h1 => ?_)
 ·
  have f1 := h1;try simp only [bl] at f1
  refine cK (tC (cS (cB ?_)));refine yb (m := 17) [] (by repeat constructor) (by kernel_rfl) rfl ?_;refine qT (i := 0) (qB 17 1) (Hp.Le.refl _) rfl rfl (oV qF) ?_;refine qT (i := 1) (qB 17 3) (Hp.Le.refl _) rfl rfl (oV qF) ?_;refine qT (i := 2) (qB 17 7) (Hp.Le.refl _) rfl rfl (oV qF) ?_;refine qT (i := 3) (qB 17 15) (Hp.Le.refl _) rfl rfl (oF 0 underlying59 sizeOf29 qF) ?_;refine qT (i := 4) (qB 17 31) (Hp.Le.refl _) rfl rfl (oF 0 underlying29 sizeOf25 qF) ?_;refine qT (i := 6) (qB 17 95) (Hp.Le.refl _) rfl rfl (oV qF) ?_;refine qT (i := 7) (qB 17 223) (Hp.Le.refl _) rfl rfl (oV qF) ?_;refine qT (i := 8) (qB 17 479) (Hp.Le.refl _) rfl rfl (oV qF) ?_;refine' qT (i := 9) (qB 17 991) (Hp.Le.refl _) rfl rfl ?hh0 ?kk0
  case hh0 =>
   (refine qf trivial rfl rfl rfl ?_ ?_; (omega))
   exact qF
  refine qT (i := 10) (qB 17 2015) (Hp.Le.refl _) rfl rfl (qmb trivial rfl underlying9 rfl rfl rfl (by have e8 : ByteArray.size ⟨#[120,121,122]⟩ = 3 := rfl; omega) qF) ?_;refine h_go [5,11] (by kernel_rfl) rfl (TWHs.cons ?_ (TWHs.cons ?_ TWHs.nil))
  ·
   refine qP (qB 17 2047) rfl ?_;refine oL isAgg25 ?_;refine qM (Hp.Le.refl _) ?_;refine qO (i := 11) (qB 17 4095) rfl ?_;refine oB underlying25 sizeOf9 zeroValue9 fun b33 => ?_;refine qM (Hp.Le.refl _) ?_;refine qO (i := 12) (qB 17 8191) rfl ?_;refine oD underlying25 qci fun v34 => ?_;refine qM (Hp.Le.refl _) ?_;refine qT (i := 13) (qB 17 16383) (Hp.Le.refl _) rfl rfl (oV qF) ?_;refine qT (i := 14) (qB 17 32767) (Hp.Le.refl _) rfl rfl (oF 0 underlying59 sizeOf29 qF) ?_;refine qT (i := 15) (qB 17 65535) (Hp.Le.refl _) rfl rfl (oF 0 underlying29 sizeOf25 qF) ?_;refine qO (i := 16) (qB 17 131071) rfl ?_;refine vq (u := v34) (by repeat constructor) (fun hcv => ?_);refine qz trivial rfl rfl (hcv).1 sizeOf25 (hcv).2 (by repeat constructor) (by exact Nat.le_of_ble_eq_true rfl) ?_;refine qM (Hp.Le.refl _) ?_;refine qn (by kernel_rfl) ?_;refine qe (tC (cR ?_));refine oV ?_
   (refine qf trivial rfl rfl rfl ?_ ?_; (omega))
   refine oV ?_;refine oN ?_;exact qj (l ++ [ByteArray.extract ⟨#[120,121,122]⟩ ((l.length : Nat) : Int).toNat (((l.length : Nat) : Int) + 1).toNat],v34) (by rw [List.length_append]; exact (sC rfl (sC rfl (sC rfl (sC rfl (sC rfl (sC rfl (sC rfl sN)))))))) (fun _ h => by unfold nmR; rw [qf9,List.length_append]; exact h.sort (by repeat constructor)) (by show 4 - (l ++ [_]).length < 4 - l.length; rw [List.length_append,List.length_singleton]; omega) (by show (((l ++ [_]).length : Nat) : Int) ≤ _; rw [List.length_append,List.length_singleton]; omega)
  refine qP (qB 17 4063) rfl ?_;refine oB underlying25 sizeOf9 zeroValue9 fun b33 => ?_;refine qM (Hp.Le.refl _) ?_;refine qO (i := 5) (qB 17 4095) rfl ?_;refine oL isAgg25 ?_;refine qM (Hp.Le.refl _) ?_;refine qO (i := 12) (qB 17 8191) rfl ?_;refine oD underlying25 qci fun v34 => ?_;refine qM (Hp.Le.refl _) ?_;refine qT (i := 13) (qB 17 16383) (Hp.Le.refl _) rfl rfl (oV qF) ?_;refine qT (i := 14) (qB 17 32767) (Hp.Le.refl _) rfl rfl (oF 0 underlying59 sizeOf29 qF) ?_;refine qT (i := 15) (qB 17 65535) (Hp.Le.refl _) rfl rfl (oF 0 underlying29 sizeOf25 qF) ?_;refine qO (i := 16) (qB 17 131071) rfl ?_;refine vq (u := v34) (by repeat constructor) (fun hcv => ?_);refine qz trivial rfl rfl (hcv).1 sizeOf25 (hcv).2 (by repeat constructor) (by exact Nat.le_of_ble_eq_true rfl) ?_;refine qM (Hp.Le.refl _) ?_;refine qn (by kernel_rfl) ?_;refine qe (tC (cR ?_));refine oV ?_
  (refine qf trivial rfl rfl rfl ?_ ?_; (omega))
  refine oV ?_;refine oN ?_;exact qj (l ++ [ByteArray.extract ⟨#[120,121,122]⟩ ((l.length : Nat) : Int).toNat (((l.length : Nat) : Int) + 1).toNat],v34) (by rw [List.length_append]; exact (sC rfl (sC rfl (sC rfl (sC rfl (sC rfl (sC rfl (sC rfl sN)))))))) (fun _ h => by unfold nmR; rw [qf9,List.length_append]; exact h.sort (by repeat constructor)) (by show 4 - (l ++ [_]).length < 4 - l.length; rw [List.length_append,List.length_singleton]; omega) (by show (((l ++ [_]).length : Nat) : Int) ≤ _; rw [List.length_append,List.length_singleton]; omega)
 have f1 := h1;try simp only [bl] at f1
 refine qq (qc (qc (qp rfl (tC (cS (cS ?_))))));refine qa0 (u := vi) (xss := scs l) (by repeat constructor) (jf l) (qkv l) (by unfold maxLen; omega) (fun I1 hx1 hsi => ?_);refine cR ?_;refine oV ?_;refine oN (tC (cB ?_));refine qu (ι := Nat × List LetC × List qk × List Int × Value × Value × Value × Hp) [1,2,6,8] (.cons rfl (.cons rfl (.cons rfl (.cons rfl .nil)))) (fun x => ts.length - x.1) (fun x E0 => (10,.int .i64 (x.1 : Nat)) :: E0) (fun x => St w [] x.2.2.2.2.2.2.2 [ltR x.2.2.2.2.1 x.2.1,ndR x.2.2.2.2.2.1 x.2.2.1,opR x.2.2.2.2.2.2.1 x.2.2.2.1,skB b14 vi x.2.2.2.2.1 N0 x.2.2.2.2.2.1 x.2.2.2.2.2.2.1,.box b6 (.cells #[N0,N0,N0,N0] 29 (0,0))]) (fun x => x.1 ≤ ts.length ∧ x.1 ≤ 20 ∧ qa9 x.2.2.2.2.2.2.2 x.2.1 x.2.2.1 x.2.2.2.1 (2 * x.1) ∧ Ext w.heap.size I1 x.2.2.2.2.2.2.2) ((0,[],[],[],N0,N0,N0,I1)) (sC rfl (sC rfl (sC rfl (sC rfl (sC rfl sN))))) (fun _ h => (((h.nilRow 3 1).nilRow 67 8).nilRow 72 2).sort (by repeat constructor)) (⟨Nat.zero_le _,Nat.zero_le _,⟨Nat.zero_le _,fun o h => (by cases h),fun o h => (by cases h),Nat.zero_le _⟩,Ext.refl _ _⟩) ?_;rintro ⟨i,ls,ns,os,vl,va,u,I2⟩ ⟨hi1,hi2,hk,hx2⟩
 try dsimp only
 simp only at hi1 hi2 hk hx2
 refine cS (sR ?_);iterate 2 refine oV ?_
 refine qw trivial rfl underlying22 rfl ((ht.le (hx1.le.trans hx2.le)).s) ?_;refine oV ?_;refine' oY (fun hb42 => ?_) ?_;rotate_left
 ·
  iterate 2 refine gV hb42 ?_
  refine oN ?_;exact qa rfl
 refine nT ?_;refine cC rfl (fun h2 => ?_) (fun h2 => ?_)
 ·
  have f2 := h2;try simp only [bl] at f2
  obtain ⟨t,htt⟩ : ∃ t,ts[i]? = some t := ⟨ts[i]'(by omega),List.getElem?_eq_getElem (by omega)⟩
  refine cK (tC (cS (cB (cR ?_))));iterate 3 refine oV ?_
  refine vk trivial rfl underlying22 sizeOf62 rfl ((ht.le (hx1.le.trans hx2.le)).s) rfl (by omega) ?_;refine y7 trivial rfl isAgg62 sizeOf62 rfl rfl ((ht.le (hx1.le.trans hx2.le)).at_ htt) ?_;refine oC trivial rfl call18 rfl (q2e b14 vi vl N0 va u l ls ns os (2 * i) t (hsi.le hx2.le) ⟨by omega,by omega⟩ hk (by omega) (ht.ok t (List.mem_of_getElem? htt))) (by repeat constructor) ?_;rintro _ I3 _ hx3 ⟨rfl,vl3,va3,u3,ls3,ns3,os3,rfl,hk3⟩;refine oN (qe (tC (cR ?_)));refine oV ?_
  (refine qf trivial rfl rfl rfl ?_ ?_; (omega))
  refine oV ?_;refine oN ?_;exact qj (i + 1,ls3,ns3,os3,vl3,va3,u3,I3) (sC rfl (sC rfl (sC rfl (sC rfl (sC rfl sN))))) (fun _ h => h.sort (by repeat constructor)) (by show ts.length - (i + 1) < ts.length - i; omega) ⟨by show i + 1 ≤ _; omega,by show i + 1 ≤ _; omega,hk3,hx2.trans hx3 (Nat.le_refl _)⟩
 have f2 := h2;try simp only [bl] at f2
 refine qq (qc (qc (qp rfl (tC (sR ?_)))));refine oV ?_;refine oC trivial rfl call19 rfl (qs4 b14 vi vl N0 va u ls ns os (2 * i) hk (by omega)) (by repeat constructor) ?_;rintro _ I3 _ hx3 ⟨rfl,vl3,va3,u3,ls3,ns3,os3,rfl,hk3⟩;refine oN (tC (cS ?_))
 have hk3l := hk3.lets
 have hk3s := hk3.sum
 have hkl := qlv l ls3
 refine cR ?_;refine oV ?_;refine oC trivial rfl call20 rfl (qs2 b14 vi vl3 N0 va3 u3 l ls3 (hsi.le (hx2.le.trans hx3.le)) (by omega) (by omega)) (by repeat constructor) ?_;rintro v57 _ _ hx4 ⟨rfl,rfl⟩;refine oV ?_;refine oN (tC (cS (cS ?_)));refine qa0 (u := v57) (xss := scs (knS l ls3)) (by repeat constructor) (jf _) (qkv _) (by unfold maxLen; omega) (fun I4 hx4 hkn => ?_)
 have hsk := jf (knS l ls3)
 refine cR ?_;refine oV ?_;refine oN (tC (cB ?_));refine qu (ι := List ByteArray × Value) [1,6,8,11] (.cons rfl (.cons rfl (.cons rfl (.cons rfl .nil)))) (fun x => 4 - x.1.length) (fun x E0 => (12,.int .i64 (x.1.length : Nat)) :: E0) (fun x => St w [] I4 [nmR x.2 x.1,skB b14 vi vl3 x.2 va3 u3,ltR vl3 ls3,ndR va3 ns3,opR u3 os3,.box b6 (.cells #[N0,N0,N0,N0] 29 (0,0))]) (fun x => (x.1.length : Int) ≤ outs % 3 + 1) (([],N0)) (sC rfl (sC rfl (sC rfl (sC rfl (sC rfl sN))))) (fun _ h => (h.nilRow 9 1).sort (by repeat constructor)) ((by show (((0 : Nat)) : Int) ≤ _; omega)) ?_;rintro ⟨lo,vo⟩ hlo
 try dsimp only
 simp only at hlo
 refine cS (sR ?_);iterate 2 refine oV ?_
 refine j6 trivial rfl rfl rfl (by omega) ?_;refine ya trivial rfl underlying5 underlying3 rfl (by rw [IntWalk.i64_in _ (by omega)]) ?_;refine oV ?_;refine nT ?_;refine cC rfl (fun h3 => ?_) (fun h3 => ?_)
 ·
  have f3 := h3;try simp only [bl] at f3
  have hmod := qpd (a := outs + (((scs (knS l ls3)).length : Nat) : Int) - 1 - ((lo.length : Nat) : Int)) (n := (scs (knS l ls3)).length) (by omega)
  obtain ⟨s,hs⟩ : ∃ s,(knS l ls3)[((outs + (((scs (knS l ls3)).length : Nat) : Int) - 1 - ((lo.length : Nat) : Int)) % (((scs (knS l ls3)).length : Nat) : Int)).toNat]? = some s := ⟨_,List.getElem?_eq_getElem (by omega)⟩
  refine cK (tC (cS (cB ?_)));refine yb (m := 26) [] (by repeat constructor) (by kernel_rfl) rfl ?_;refine qT (i := 0) (qB 26 1) (Hp.Le.refl _) rfl rfl (oV qF) ?_;refine qT (i := 1) (qB 26 3) (Hp.Le.refl _) rfl rfl (oV qF) ?_;refine qT (i := 2) (qB 26 7) (Hp.Le.refl _) rfl rfl (oV qF) ?_;refine qT (i := 3) (qB 26 15) (Hp.Le.refl _) rfl rfl (oF 0 underlying59 sizeOf29 qF) ?_;refine qT (i := 4) (qB 26 31) (Hp.Le.refl _) rfl rfl (oF 2 underlying29 sizeOf25 qF) ?_;refine qT (i := 6) (qB 26 95) (Hp.Le.refl _) rfl rfl (oV qF) ?_;refine qT (i := 7) (qB 26 223) (Hp.Le.refl _) rfl rfl (oV qF) ?_;refine' qT (i := 8) (qB 26 479) (Hp.Le.refl _) rfl rfl ?hh1 ?kk1
  case hh1 =>
   refine ya trivial rfl underlying5 underlying3 rfl (by rw [IntWalk.i64_in _ (by omega)]) ?_;exact qF
  refine qT (i := 9) (qB 26 991) (Hp.Le.refl _) rfl rfl (oV qF) ?_;refine qT (i := 10) (qB 26 2015) (Hp.Le.refl _) rfl rfl (qw trivial rfl underlying25 rfl (hkn) qF) ?_;refine' qT (i := 11) (qB 26 4063) (Hp.Le.refl _) rfl rfl ?hh2 ?kk2
  case hh2 =>
   (refine qf trivial rfl rfl rfl ?_ ?_; (omega))
   exact qF
  refine' qT (i := 12) (qB 26 8159) (Hp.Le.refl _) rfl rfl ?hh3 ?kk3
  case hh3 =>
   (refine vy trivial rfl rfl rfl ?_ ?_; (omega))
   exact qF
  refine qT (i := 13) (qB 26 16351) (Hp.Le.refl _) rfl rfl (oV qF) ?_;refine' qT (i := 14) (qB 26 32735) (Hp.Le.refl _) rfl rfl ?hh4 ?kk4
  case hh4 =>
   (refine vy trivial rfl rfl rfl ?_ ?_; (omega))
   exact qF
  refine qT (i := 15) (qB 26 65503) (Hp.Le.refl _) rfl rfl (oV qF) ?_;refine qT (i := 16) (qB 26 131039) (Hp.Le.refl _) rfl rfl (qw trivial rfl underlying25 rfl (hkn) qF) ?_;refine qT (i := 17) (qB 26 262111) (Hp.Le.refl _) rfl rfl (j6 trivial rfl rfl rfl (by omega) qF) ?_;refine qT (i := 18) (qB 26 524255) (Hp.Le.refl _) rfl rfl (vk trivial rfl underlying25 sizeOf9 rfl (hkn) rfl (by omega) qF) ?_;refine qT (i := 19) (qB 26 1048543) (Hp.Le.refl _) rfl rfl (q8 trivial rfl isAgg9 rfl (zn hkn hs) qF) ?_;refine h_go [5,20] (by kernel_rfl) rfl (TWHs.cons ?_ (TWHs.cons ?_ TWHs.nil))
  ·
   refine qP (qB 26 1048575) rfl ?_;refine oL isAgg25 ?_;refine qM (Hp.Le.refl _) ?_;refine qO (i := 20) (qB 26 2097151) rfl ?_;refine oB underlying25 sizeOf9 zeroValue9 fun b85 => ?_;refine qM (Hp.Le.refl _) ?_;refine qO (i := 21) (qB 26 4194303) rfl ?_;refine oD underlying25 qci fun v86 => ?_;refine qM (Hp.Le.refl _) ?_;refine qT (i := 22) (qB 26 8388607) (Hp.Le.refl _) rfl rfl (oV qF) ?_;refine qT (i := 23) (qB 26 16777215) (Hp.Le.refl _) rfl rfl (oF 0 underlying59 sizeOf29 qF) ?_;refine qT (i := 24) (qB 26 33554431) (Hp.Le.refl _) rfl rfl (oF 2 underlying29 sizeOf25 qF) ?_;refine qO (i := 25) (qB 26 67108863) rfl ?_;refine vq (u := v86) (by repeat constructor) (fun hcv => ?_);refine qz trivial rfl rfl (hcv).1 sizeOf25 (hcv).2 (by repeat constructor) (by exact Nat.le_of_ble_eq_true rfl) ?_;refine qM (Hp.Le.refl _) ?_;refine qn (by kernel_rfl) ?_;refine qe (tC (cR ?_));refine oV ?_
   (refine qf trivial rfl rfl rfl ?_ ?_; (omega))
   refine oV ?_;refine oN ?_;exact qj (lo ++ [s],v86) (by rw [List.length_append]; exact (sC rfl (sC rfl (sC rfl (sC rfl (sC rfl sN)))))) (fun _ h => by unfold nmR; rw [qf9,List.length_append]; exact h.sort (by repeat constructor)) (by show 4 - (lo ++ [_]).length < 4 - lo.length; rw [List.length_append,List.length_singleton]; omega) (by show (((lo ++ [_]).length : Nat) : Int) ≤ _; rw [List.length_append,List.length_singleton]; omega)
  refine qP (qB 26 2097119) rfl ?_;refine oB underlying25 sizeOf9 zeroValue9 fun b85 => ?_;refine qM (Hp.Le.refl _) ?_;refine qO (i := 5) (qB 26 2097151) rfl ?_;refine oL isAgg25 ?_;refine qM (Hp.Le.refl _) ?_;refine qO (i := 21) (qB 26 4194303) rfl ?_;refine oD underlying25 qci fun v86 => ?_;refine qM (Hp.Le.refl _) ?_;refine qT (i := 22) (qB 26 8388607) (Hp.Le.refl _) rfl rfl (oV qF) ?_;refine qT (i := 23) (qB 26 16777215) (Hp.Le.refl _) rfl rfl (oF 0 underlying59 sizeOf29 qF) ?_;refine qT (i := 24) (qB 26 33554431) (Hp.Le.refl _) rfl rfl (oF 2 underlying29 sizeOf25 qF) ?_;refine qO (i := 25) (qB 26 67108863) rfl ?_;refine vq (u := v86) (by repeat constructor) (fun hcv => ?_);refine qz trivial rfl rfl (hcv).1 sizeOf25 (hcv).2 (by repeat constructor) (by exact Nat.le_of_ble_eq_true rfl) ?_;refine qM (Hp.Le.refl _) ?_;refine qn (by kernel_rfl) ?_;refine qe (tC (cR ?_));refine oV ?_
  (refine qf trivial rfl rfl rfl ?_ ?_; (omega))
  refine oV ?_;refine oN ?_;exact qj (lo ++ [s],v86) (by rw [List.length_append]; exact (sC rfl (sC rfl (sC rfl (sC rfl (sC rfl sN)))))) (fun _ h => by unfold nmR; rw [qf9,List.length_append]; exact h.sort (by repeat constructor)) (by show 4 - (lo ++ [_]).length < 4 - lo.length; rw [List.length_append,List.length_singleton]; omega) (by show (((lo ++ [_]).length : Nat) : Int) ≤ _; rw [List.length_append,List.length_singleton]; omega)
 have f3 := h3;try simp only [bl] at f3
 refine qq (qc (qc (qp rfl (tC (cS ?_)))));refine qa0 (u := vo) (xss := scs lo) (by repeat constructor) (jf lo) (qkv lo) (by unfold maxLen; omega) (fun I5 hx5 hso => ?_);refine qa0 (u := vl3) (xss := ls3.map LetC.cells) (by repeat constructor) (List.length_map _) (qqu ls3) (by unfold maxLen; omega) (fun I6 hx6 hsl => ?_);refine qa0 (u := va3) (xss := nds ns3) (by repeat constructor) (z4 ns3) (q0b ns3) (by unfold maxLen; omega) (fun I7 hx7 hsa => ?_)
 have hsi7 := hsi.le (hx2.le.trans (hx3.le.trans (hx4.le.trans (hx5.le.trans (hx6.le.trans hx7.le)))))
 have hso7 := hso.le (hx6.le.trans hx7.le)
 have hsl7 := hsl.le hx7.le
 have hp : y5 I7 vi vl3 vo va3 ⟨l,ls3,lo,ns3.map qk.c⟩ ns3 := ⟨hsi7,hsl7,hso7,hsa,fun o ho => (hk3.ok o ho).le (hx4.le.trans (hx5.le.trans (hx6.le.trans hx7.le))),rfl⟩
 refine cR ?_;iterate 2 refine oV ?_
 refine oF 0 underlying59 sizeOf29 ?_;refine oA isAgg29 sizeOf29 ?_;refine oS sizeOf29 ?_;refine nE ?_;refine retR rfl (.agg isAgg29 sizeOf29 rfl (by repeat constructor) rfl .nil) ?_;exact leaf (hx1.trans (hx2.trans (hx3.trans (hx4.trans (hx5.trans (hx6.trans hx7 (Nat.le_refl _)) (Nat.le_refl _)) (Nat.le_refl _)) (Nat.le_refl _)) (Nat.le_refl _)) (Nat.le_refl _)) (List.nil_sublist _) ⟨_,_,_,_,_,_,rfl,hp,hk3.few⟩
def arI (b : Nat) (l : List Int) : Tw.Item := .box b (.cells (ivs l).toArray 3 (0,0))
theorem q2g (vi vl vo va : Value) (p : qx) (ns : List qk) (s : ByteArray) (pl : List Int) {I : Hp} (b1 b8 b32 n : Nat) {T1 T8 : TypeId} {z1 z8 : Nat × Nat} (hp : y5 I vi vl vo va p ns) (hf : ∀ o ∈ ns, o.c.few 2000000)
   (hB1 : I b1 = some (.cells #[vi,vl,vo,va] T1 z1)) (hB8 : I b8 = some (.cells #[.slice (some ⟨b32,0,none⟩) n n] T8 z8)) (hn : pl.length = n) (hn2 : n = p.all.length) (ho : qlh p) :
   Fun prog 26 [.string s,.pointer (some ⟨b1,0,none⟩),.pointer (some ⟨b8,0,none⟩)] I [arI b32 pl] (fun v I' B' => I = I' ∧ v = .int .i64 (plcZ p pl s) ∧ B' = [arI b32 pl]) := by
 have hsi := hp.si
 have hsl := hp.sl
 have hso := hp.so
 have hsa := hp.sa
 have hll : (p.lets.map LetC.cells).length = p.lets.length := List.length_map _
 unfold arI
 intro w hw
 refine j5 _ func26 rfl ntmps26 rfl ?_ hw;refine sR ?_;refine oV ?_;refine nS ?_;refine y7 trivial rfl isAgg29 sizeOf29 rfl rfl ((fun k y h => by unfold Hp.cell?; rw [hB1]; show (#[vi,vl,vo,va] : Array Value)[0 + k]? = some y; rw [Nat.zero_add]; simpa using h)) ?_;refine oV ?_;refine oQ call27 rfl (q1k vi vl vo va p ns s hp hf) ?_;iterate 7 refine oV ?_
 refine nU ?_;refine oV ?_;refine nT ?_;refine cC rfl (fun h1 => ?_) (fun h1 => ?_)
 ·
  have f1 := h1;try simp only [bl] at f1
  obtain ⟨k1,c,hc,k2,k3⟩ := ho.place s h1
  have hcl := (List.getElem?_eq_some_iff.1 hc).1
  have hpz : plcZ p pl s = pl.getD c.root.toNat 0 := by
    unfold plcZ
    rw [if_pos h1,List.getD_eq_getElem?_getD (l := p.lets),hc]; rfl
  refine cS ?_;refine jn (by kernel_rfl) (by kernel_rfl) (fun _ h => h.drawn) ?_;refine q8 trivial rfl isAgg32 rfl (by unfold Hp.cell?; rw [hB8]; rfl) ?_;refine oF 1 underlying29 sizeOf26 ?_;refine q8 trivial rfl isAgg26 rfl (by unfold Hp.cell?; rw [hB1]; rfl) ?_;refine oV ?_;refine vk trivial rfl underlying26 sizeOf72 rfl (hsl) rfl (by omega) ?_;refine oF 1 underlying72 sizeOf3 ?_;refine q8 trivial rfl isAgg3 rfl (qbq hsl hc 1 _ rfl) ?_;refine yt trivial rfl underlying32 sizeOf3 rfl rfl (by omega) ?_;refine qax trivial rfl isAgg3 rfl (by repeat constructor) ((by rw [show 0 + c.root.toNat * 1 = c.root.toNat by omega]; exact qe7 (by omega))) ?_;refine oV ?_;refine nF ?_;refine ret1 rfl rfl ?_;exact fun w' hw' => ⟨I,[.box b32 (.cells (ivs pl).toArray 3 (0,0))],hw'.sort (by repeat constructor),Ext.refl _ _,rfl,by rw [hpz],rfl⟩
 have f1 := h1;try simp only [bl] at f1
 have hpz : plcZ p pl s = (v8 p s).2.1 := by unfold plcZ; rw [h1]; rfl
 refine kS ?_;iterate 2 refine oV ?_
 refine nE ?_;refine ret1 rfl rfl ?_;exact fun w' hw' => ⟨I,[.box b32 (.cells (ivs pl).toArray 3 (0,0))],hw'.sort (by repeat constructor),Ext.refl _ _,rfl,by rw [hpz]; rfl,rfl⟩
theorem q2h (vi vl vo va : Value) (p : qx) (ns : List qk) {I : Hp} (hp : y5 I vi vl vo va p ns) (hf : ∀ o ∈ ns, o.c.few 3000) :
   Fun prog 8 [.agg #[vi,vl,vo,va]] I [] (fun v I' _ => LowV (lowZ p) v I') := by
 have hsi := hp.si
 have hsl := hp.sl
 have hso := hp.so
 have hsa := hp.sa
 have hla := z4 ns
 have hlo := jf p.outs
 have hli := jf p.ins
 have hal : p.all.length = ns.length := by rw [← hp.eq,List.length_map]
 have hf2 : ∀ o ∈ ns,o.c.few 2000000 := fun o ho => ⟨Nat.le_trans (hf o ho).1 (by decide),Nat.le_trans (hf o ho).2 (by decide)⟩
 intro w hw
 refine q9 _ func8 rfl ntmps8 rfl ?_ hw;refine sR ?_;refine qo trivial rfl rfl rfl (fun b1 => ?_);refine qh trivial rfl zeroValue34 rfl (fun b2 => ?_);iterate 2 refine oV ?_
 refine nU ?_;refine oA isAgg29 sizeOf29 ?_;refine oQ call25 rfl (q1j vi vl vo va p ns hp hf2) ?_;iterate 5 refine oV ?_
 refine nS ?_;iterate 2 refine oV ?_
 refine nT ?_;refine cC rfl (fun h1 => ?_) (fun h1 => ?_)
 ·
  have f1 := h1;try simp only [bl] at f1
  have hz : lowZ p = ⟨noT,(vv p).name,(vv p).err⟩ := if_pos f1
  refine sR ?_;refine vg trivial rfl (qcg) rfl .nil ?_;iterate 2 refine oV ?_
  refine oS sizeOf34 ?_;iterate 2 refine oV ?_
  refine nF ?_;refine retR rfl (.agg isAgg34 sizeOf34 rfl (by repeat constructor) rfl (.tmp rfl (.tmp rfl .nil))) ?_;refine leaf (Ext.refl _ _) (List.nil_sublist _) ?_
  rw [hz]
  exact ⟨N0,N0,[],rfl,⟨Slc.nil _ _,fun o ho => (by cases ho),rfl,Slc.nil _ _⟩,fun o ho => by cases ho⟩
 have f1 := h1;try simp only [bl] at f1
 have hz : lowZ p = if (vw (lowT p)).isSome = true then ⟨lowT p,⟨#[]⟩,0⟩ else ⟨noT,⟨#[]⟩,4⟩ := if_neg (fun h => h f1)
 have hin := qsc f1
 obtain ⟨q1,q2,q3⟩ := hin.few
 refine kS ?_;refine oF 0 underlying29 sizeOf25 ?_;refine oL isAgg25 ?_;refine qw trivial rfl underlying25 rfl (hsi) ?_;refine vg trivial rfl (qcg) rfl (.cons rfl rfl rfl (by repeat constructor) .nil) ?_;refine qh trivial rfl zeroValue34 rfl (fun b7 => ?_);refine oS sizeOf34 ?_;refine nS ?_;refine oF 3 underlying29 sizeOf27 ?_;refine oL isAgg27 ?_;refine qw trivial rfl underlying27 rfl (hsa) ?_;refine qbu trivial rfl underlying32 qnc rfl rfl (by omega) (by omega) (by (unfold maxLen; omega)) (fun b32 => ?_);refine qh trivial rfl zeroValue32 rfl (fun b8 => ?_);refine oS sizeOf32 ?_;refine oN (tC (cS ?_))
 rw [Int.toNat_natCast,qse,hla,hli]
 refine qi8 (b := b1) (by repeat constructor) (fun I1 hx1 hB1 => ?_);refine qi8 (b := b8) (by repeat constructor) (fun I2 hx2 hB8 => ?_)
 have hxl := hx1.le.trans hx2.le
 have hB1' := hx2.le _ _ hB1
 have hp2 := hp.le hxl
 have hsa2 := hsa.le hxl
 have hso2 := hso.le hxl
 have hplace : ∀ (s : ByteArray) (pl : List Int), pl.length = ns.length → Fun prog 26 [.string s, .pointer (some ⟨b1, 0, none⟩), .pointer (some ⟨b8, 0, none⟩)] I2 [arI b32 pl] (fun v I' B' => I2 = I' ∧ v = .int .i64 (plcZ p pl s) ∧ B' = [arI b32 pl]) :=
   fun s pl hpl => q2g vi vl vo va p ns s pl b1 b8 b32 ns.length hp2 hf2 hB1' hB8 hpl hal.symm hin
 unfold arI at hplace
 refine cR ?_;iterate 2 refine oV ?_
 refine nU ?_;refine oF 3 underlying29 sizeOf27 ?_;refine q8 trivial rfl isAgg27 rfl (by unfold Hp.cell?; rw [hB1']; rfl) ?_;refine qw trivial rfl underlying27 rfl (hsa2) ?_;refine oV ?_;refine oN (tC (cB ?_));refine qu (ι := Nat × List Int × List OpV × Value) [1,2,7,8,9,35,36] (.cons rfl (.cons rfl (.cons rfl (.cons rfl (.cons rfl (.cons rfl (.cons rfl .nil))))))) (fun x => ns.length - x.1) (fun x E0 => (37,.int .i64 (x.1 : Nat)) :: E0) (fun x => St w [] I2 [.row x.2.2.2 53 7 x.2.2.1.length (ocs x.2.2.1).flatten,arI b32 x.2.1,.box b7 (.cells #[.int .i64 (p.ins.length : Nat),x.2.2.2,.slice none 0 0] 34 (0,0)),.box b2 (.cells #[.int .i64 0,.slice none 0 0,.slice none 0 0] 34 (0,0))]) (fun x => x.1 ≤ ns.length ∧ x.2.1.length = ns.length ∧ x.2.2.1.length ≤ x.1 ∧ (∀ o ∈ x.2.2.1,o.ok I2 ∧ OpC.few 3000 o.c) ∧ z6 p = yx p (p.all.drop x.1) x.1 x.2.1 (x.2.2.1.map OpV.c)) ((0,List.replicate ns.length 0,[],.slice none 0 0)) (sC rfl (sC rfl (sC rfl (sC rfl (sC rfl (sC rfl (sC rfl (sC rfl sN)))))))) (fun _ h => (h.nilRow 53 7).sort (by repeat constructor)) (⟨Nat.zero_le _,List.length_replicate,Nat.le_refl _,fun o ho => (by cases ho),by show z6 p = yx p p.all 0 (List.replicate ns.length 0) []; rw [← hal]; rfl⟩) ?_;rintro ⟨i,pl,os,u⟩ ⟨hi,hpl,hol,hok,hgo⟩
 try dsimp only
 simp only at hi hpl hol hok hgo; have hpll := qsd pl; unfold arI
 refine sR ?_;refine oV ?_;refine oN (tC (cS ?_));refine cC rfl (fun h2 => ?_) (fun h2 => ?_)
 ·
  have f2 := h2;try simp only [bl] at f2
  obtain ⟨o,ho⟩ : ∃ o,ns[i]? = some o := ⟨ns[i]'(by omega),List.getElem?_eq_getElem (by omega)⟩
  have hom := List.mem_of_getElem? ho
  have hoc : p.all[i]? = some o.c := by rw [← hp.eq,List.getElem?_map,ho]; rfl
  have hw1 : Ws I2 o.vn o.c.n := ((hp.ok o hom).le hxl).1
  have hw2 : Ws I2 o.vd o.c.d := ((hp.ok o hom).le hxl).2
  rw [qsb hoc] at hgo
  have hknd := hin.kind o.c (List.mem_of_getElem? hoc)
  have hlow := hin.low i o.c hoc
  refine cK (tC (cS (cB (sR ?_))));refine oV ?_;refine vk trivial rfl underlying27 sizeOf67 rfl (hsa2) rfl (by omega) ?_;refine y7 trivial rfl isAgg67 sizeOf67 rfl rfl (qa6 hsa2 ho) ?_;refine qh trivial rfl zeroValue67 rfl (fun b11 => ?_);refine oV ?_;refine oS sizeOf67 ?_;refine nU ?_;refine oF 0 underlying67 sizeOf3 ?_;refine oL isAgg3 ?_;refine oV ?_;refine nT ?_;refine cC rfl (fun h3 => ?_) (fun h3 => ?_)
  ·
   have f3 := h3;try simp only [bl] at f3
   rw [if_pos f3] at hgo
   refine cS ?_;refine yb (m := 8) [.box b11 _] (by repeat constructor) (by kernel_rfl) rfl ?_;refine qT (i := 0) (qB 8 1) (Hp.Le.refl _) rfl rfl (q8 trivial rfl isAgg32 rfl (by unfold Hp.cell?; rw [hB8]; rfl) qF) ?_;refine qT (i := 1) (qB 8 3) (Hp.Le.refl _) rfl rfl (oV qF) ?_;refine qT (i := 2) (qB 8 7) (Hp.Le.refl _) rfl rfl (oV qF) ?_;refine qT (i := 3) (qB 8 15) (Hp.Le.refl _) rfl rfl (oF 4 underlying67 sizeOf9 qF) ?_;refine qT (i := 4) (qB 8 31) (Hp.Le.refl _) rfl rfl (oL isAgg9 qF) ?_;refine qO (i := 5) (qB 8 63) rfl ?_;refine qir trivial rfl rfl call26 rfl rfl (hplace o.c.name pl hpl) (by repeat constructor) ?_;rintro _ _ _ hxq ⟨rfl,rfl,rfl⟩;refine qM (hxq.le) ?_;refine qT (i := 6) (qB 8 127) (hxq.le) rfl rfl (yt trivial rfl underlying32 sizeOf3 rfl rfl (by omega) qF) ?_;refine qO (i := 7) (qB 8 255) rfl ?_;refine qz trivial rfl rfl rfl sizeOf3 rfl (by repeat constructor) (by rw [hpll]; omega) ?_
   rw [show 0 + ((i : Nat) : Int).toNat * 1 = i by omega,qh7]
   refine qM (hxq.le) ?_;refine qn (by kernel_rfl) ?_;refine tC (qq (qc (qp rfl (tC (cR ?_)))))
   (refine qf trivial rfl rfl rfl ?_ ?_; (omega))
   refine oV ?_;refine oN ?_
   (exact qj (i + 1,pl.set i (plcZ p pl o.c.name),os,u) (sC rfl (sC rfl (sC rfl (sC rfl (sC rfl (sC rfl (sC rfl (sC rfl sN)))))))) (fun _ h => h.sort (by repeat constructor)) (by show ns.length - (i + 1) < ns.length - i; omega) ⟨by show i + 1 ≤ _; omega,by rw [List.length_set]; exact hpl,by show os.length ≤ i + 1; omega,hok,hgo⟩)
  have f3 := h3;try simp only [bl] at f3
  rw [if_neg f3,List.length_map] at hgo
  refine kS ?_;refine q8 trivial rfl isAgg32 rfl (by unfold Hp.cell?; rw [hB8]; rfl) ?_;refine oV ?_;refine oF 0 underlying34 sizeOf3 ?_;refine oL isAgg3 ?_;refine oF 1 underlying34 sizeOf31 ?_;refine oL isAgg31 ?_;refine yi trivial rfl underlying31 rfl (by repeat constructor) ?_
  (refine qf trivial rfl rfl rfl ?_ ?_; (omega))
  refine yt trivial rfl underlying32 sizeOf3 rfl rfl (by omega) ?_;refine qz trivial rfl rfl rfl sizeOf3 rfl (by repeat constructor) (by rw [hpll]; omega) ?_
  rw [show 0 + ((i : Nat) : Int).toNat * 1 = i by omega,qh7]
  refine oN (tC (cS ?_))
  obtain ⟨pl2,hpl2⟩ : ∃ pl2,pl2 = pl.set i ((p.ins.length : Int) + os.length) := ⟨_,rfl⟩
  have hpl2l : pl2.length = ns.length := by rw [hpl2,List.length_set]; exact hpl
  rw [← hpl2]
  rw [← hpl2] at hgo
  refine cR ?_;refine oF 0 underlying67 sizeOf3 ?_;refine oL isAgg3 ?_;refine oF 3 underlying67 sizeOf3 ?_;refine oL isAgg3 ?_;refine oF 5 underlying67 sizeOf48 ?_;refine oA isAgg48 sizeOf48 ?_;refine vg trivial rfl (qch) rfl (.cons rfl rfl rfl (by repeat constructor) (.cons rfl rfl rfl (by repeat constructor) (.cons rfl rfl rfl (by repeat constructor) .nil))) ?_;refine qh trivial rfl zeroValue53 rfl (fun b12 => ?_);refine oS sizeOf53 ?_;refine nT ?_;refine jk (ι := Int) [1,2,7,8,9,11,12,35,36,37] (.cons rfl (.cons rfl (.cons rfl (.cons rfl (.cons rfl (.cons rfl (.cons rfl (.cons rfl (.cons rfl (.cons rfl .nil)))))))))) (fun z E0 => E0) (fun z => St w [] I2 [.box b12 (.cells [.int .i64 o.c.kind,.int .i64 z,.int .i64 0,.int .i64 o.c.e,.bool o.c.neg,o.vn,o.vd].toArray 53 (0,0)),.box b11 (.cells o.cells.toArray 67 (0,0)),.row u 53 7 os.length (ocs os).flatten,.box b32 (.cells (ivs pl2).toArray 3 (0,0)),.box b7 (.cells #[.int .i64 (p.ins.length : Nat),u,.slice none 0 0] 34 (0,0)),.box b2 (.cells #[.int .i64 0,.slice none 0 0,.slice none 0 0] 34 (0,0))]) (fun z => z = if 2 ≤ o.c.kind then pl2.getD o.c.a.toNat 0 else 0) ?_ ?_
  ·
   refine sR ?_;refine oF 0 underlying67 sizeOf3 ?_;refine oL isAgg3 ?_;refine oV ?_;refine nT ?_;refine cC rfl (fun h4 => ?_) (fun h4 => ?_)
   ·
    have f4 := h4;try simp only [bl] at f4
    obtain ⟨a1,a2,_⟩ := hlow (by omega)
    refine cR ?_;refine q8 trivial rfl isAgg32 rfl (by unfold Hp.cell?; rw [hB8]; rfl) ?_;refine oF 1 underlying67 sizeOf3 ?_;refine oL isAgg3 ?_;refine yt trivial rfl underlying32 sizeOf3 rfl rfl (by omega) ?_;refine qax trivial rfl isAgg3 rfl (by repeat constructor) ((by rw [show 0 + o.c.a.toNat * 1 = o.c.a.toNat by omega]; exact qe7 (by omega))) ?_;refine oF 1 underlying53 sizeOf3 ?_;refine oS sizeOf3 ?_;refine oN ?_
    (exact meet (pl2.getD o.c.a.toNat 0) (sC rfl (sC rfl (sC rfl (sC rfl (sC rfl (sC rfl (sC rfl (sC rfl (sC rfl (sC rfl sN)))))))))) (fun _ h => h.sort (by repeat constructor)) (by show _ = if 2 ≤ o.c.kind then _ else _; rw [if_pos (by omega)]))
   have f4 := h4;try simp only [bl] at f4
   refine cK ?_
   (exact meet 0 (sC rfl (sC rfl (sC rfl (sC rfl (sC rfl (sC rfl (sC rfl (sC rfl (sC rfl (sC rfl sN)))))))))) (fun _ h => h.sort (by repeat constructor)) (by show _ = if 2 ≤ o.c.kind then _ else _; rw [if_neg (by omega)]))
  rintro zA hzA
  try dsimp only
  refine jk (ι := Int) [1,2,7,8,9,12,35,36,37] (.cons rfl (.cons rfl (.cons rfl (.cons rfl (.cons rfl (.cons rfl (.cons rfl (.cons rfl (.cons rfl .nil))))))))) (fun z E0 => E0) (fun z => St w [] I2 [.box b12 (.cells [.int .i64 o.c.kind,.int .i64 zA,.int .i64 z,.int .i64 o.c.e,.bool o.c.neg,o.vn,o.vd].toArray 53 (0,0)),.row u 53 7 os.length (ocs os).flatten,.box b32 (.cells (ivs pl2).toArray 3 (0,0)),.box b7 (.cells #[.int .i64 (p.ins.length : Nat),u,.slice none 0 0] 34 (0,0)),.box b2 (.cells #[.int .i64 0,.slice none 0 0,.slice none 0 0] 34 (0,0))]) (fun z => z = if 2 ≤ o.c.kind ∧ o.c.kind ≤ 5 then pl2.getD o.c.b.toNat 0 else 0) ?_ ?_
  ·
   refine sR ?_;refine oF 0 underlying67 sizeOf3 ?_;refine oL isAgg3 ?_;refine oV ?_;refine' oY (fun hb80 => ?_) ?_;rotate_left
   ·
    have fb80 := hb80
    try simp only [bl] at fb80
    refine gF hb80 0 underlying67 sizeOf3 ?_;refine gL hb80 isAgg3 ?_;refine gV hb80 ?_;refine oN ?_;exact qa rfl
   refine nT ?_;refine cC rfl (fun h5 => ?_) (fun h5 => ?_)
   ·
    have f5 := h5;try simp only [bl] at f5
    obtain ⟨a1,a2,a3⟩ := hlow (by omega)
    obtain ⟨a4,a5⟩ := a3 (by omega)
    refine cR ?_;refine q8 trivial rfl isAgg32 rfl (by unfold Hp.cell?; rw [hB8]; rfl) ?_;refine oF 2 underlying67 sizeOf3 ?_;refine oL isAgg3 ?_;refine yt trivial rfl underlying32 sizeOf3 rfl rfl (by omega) ?_;refine qax trivial rfl isAgg3 rfl (by repeat constructor) ((by rw [show 0 + o.c.b.toNat * 1 = o.c.b.toNat by omega]; exact qe7 (by omega))) ?_;refine oF 2 underlying53 sizeOf3 ?_;refine oS sizeOf3 ?_;refine oN ?_
    (exact meet (pl2.getD o.c.b.toNat 0) (sC rfl (sC rfl (sC rfl (sC rfl (sC rfl (sC rfl (sC rfl (sC rfl (sC rfl sN))))))))) (fun _ h => h.sort (by repeat constructor)) (by show _ = if 2 ≤ o.c.kind ∧ o.c.kind ≤ 5 then _ else _; rw [if_pos (by omega)]))
   have f5 := h5;try simp only [bl] at f5
   refine cK ?_
   (exact meet 0 (sC rfl (sC rfl (sC rfl (sC rfl (sC rfl (sC rfl (sC rfl (sC rfl (sC rfl sN))))))))) (fun _ h => h.sort (by repeat constructor)) (by show _ = if 2 ≤ o.c.kind ∧ o.c.kind ≤ 5 then _ else _; rw [if_neg (by omega)]))
  rintro zB hzB
  try dsimp only
  subst hzA hzB hpl2
  refine cR ?_;refine oF 1 underlying34 sizeOf31 ?_;refine oL isAgg31 ?_;refine oA isAgg53 sizeOf53 ?_;refine oB underlying31 sizeOf53 zeroValue53 fun b94 => ?_;refine jb trivial rfl underlying31 (qna) (by decide) rfl rfl (fun v' => (by repeat constructor)) (by repeat constructor) rfl (by exact qph hw1 hw2) (by (unfold maxLen; omega)) (by omega) (fun v95 => ?_);refine oF 1 underlying34 sizeOf31 ?_;refine vq (u := v95) (by repeat constructor) (fun hcv => ?_);refine qz trivial rfl rfl (hcv).1 sizeOf31 (hcv).2 (by repeat constructor) (by exact Nat.le_of_ble_eq_true rfl) ?_;refine oN (qe (tC (cR ?_)))
  (refine qf trivial rfl rfl rfl ?_ ?_; (omega))
  refine oV ?_;refine oN ?_
  (exact qj (i + 1, pl.set i ((p.ins.length : Int) + os.length), os ++ [⟨opL o.c (pl.set i ((p.ins.length : Int) + os.length)), o.vn, o.vd⟩], v95) (sC rfl (sC rfl (sC rfl (sC rfl (sC rfl (sC rfl (sC rfl (sC rfl sN)))))))) (fun _ h => by rw [← qpg, List.length_append]; exact h.sort (by repeat constructor)) (by show ns.length - (i + 1) < ns.length - i; omega) ⟨by show i + 1 ≤ _; omega, by rw [List.length_set]; exact hpl, by simp only [List.length_append, List.length_cons, List.length_nil]; omega, fun x hx => by
     rcases List.mem_append.1 hx with hx | hx
     · exact hok x hx
     · rw [List.mem_singleton.1 hx]; exact ⟨⟨hw1,hw2⟩,hf o hom⟩,by rw [List.map_append]; exact hgo⟩)
 have f2 := h2;try simp only [bl] at f2
 have hgo2 : z6 p = (pl,os.map OpV.c) := by
   rw [hgo,List.drop_of_length_le (by omega)]; rfl
 have hlt : lowT p = ⟨p.ins.length,os.map OpV.c,p.outs.map (plcZ p pl)⟩ := by unfold lowT; rw [hgo2]
 have hosl : os.length ≤ 400 := by omega
 refine qq (qc (qc (qp rfl (tC (cS (sR ?_))))));refine oF 2 underlying29 sizeOf25 ?_;refine q8 trivial rfl isAgg25 rfl (by unfold Hp.cell?; rw [hB1']; rfl) ?_;refine qw trivial rfl underlying25 rfl (hso2) ?_;refine oV ?_;refine oN (tC (cB ?_));refine qu (ι := Nat × Value) [2,7,9,99,100] (.cons rfl (.cons rfl (.cons rfl (.cons rfl (.cons rfl .nil))))) (fun x => p.outs.length - x.1) (fun x E0 => (101,.int .i64 (x.1 : Nat)) :: E0) (fun x => St w [] I2 [.row x.2 3 1 x.1 (ics ((p.outs.take x.1).map (plcZ p pl))).flatten,.row u 53 7 os.length (ocs os).flatten,.box b32 (.cells (ivs pl).toArray 3 (0,0)),.box b7 (.cells #[.int .i64 (p.ins.length : Nat),u,x.2] 34 (0,0)),.box b2 (.cells #[.int .i64 0,.slice none 0 0,.slice none 0 0] 34 (0,0))]) (fun x => x.1 ≤ p.outs.length) ((0,.slice none 0 0)) (sC rfl (sC rfl (sC rfl (sC rfl (sC rfl (sC rfl sN)))))) (fun _ h => (h.nilRow 3 1).sort (by repeat constructor)) (Nat.zero_le _) ?_;rintro ⟨j,uu⟩ hj
 try dsimp only
 simp only at hj
 refine sR ?_;refine oV ?_;refine oN (tC (cS ?_));refine cC rfl (fun h6 => ?_) (fun h6 => ?_)
 ·
  have f6 := h6;try simp only [bl] at f6
  obtain ⟨s,hs⟩ : ∃ s,p.outs[j]? = some s := ⟨p.outs[j]'(by omega),List.getElem?_eq_getElem (by omega)⟩
  refine cK (tC (cS (cB (sR ?_))));refine vk trivial rfl underlying25 sizeOf9 rfl (hso2) rfl (by omega) ?_;refine q8 trivial rfl isAgg9 rfl (zn hso2 hs) ?_;refine oV ?_;refine nT ?_;refine yb (m := 9) [] (by repeat constructor) (by kernel_rfl) rfl ?_;refine qT (i := 0) (qB 9 1) (Hp.Le.refl _) rfl rfl (oF 2 underlying34 sizeOf32 qF) ?_;refine qT (i := 2) (qB 9 5) (Hp.Le.refl _) rfl rfl (oV qF) ?_;refine qT (i := 3) (qB 9 13) (Hp.Le.refl _) rfl rfl (oV qF) ?_;refine h_go [1,4] (by kernel_rfl) rfl (TWHs.cons ?_ (TWHs.cons ?_ TWHs.nil))
  ·
   refine qP (qB 9 15) rfl ?_;refine oL isAgg32 ?_;refine qM (Hp.Le.refl _) ?_;refine qO (i := 4) (qB 9 31) rfl ?_;refine qir trivial rfl rfl call26 rfl rfl (hplace s pl hpl) (by repeat constructor) ?_;rintro _ _ _ hxq ⟨rfl,rfl,rfl⟩;refine qM (hxq.le) ?_;refine qO (i := 5) (qB 9 63) rfl ?_;refine oB underlying32 sizeOf3 zeroValue3 fun b110 => ?_;refine qM (hxq.le) ?_;refine qO (i := 6) (qB 9 127) rfl ?_;refine oD underlying32 vp fun v111 => ?_;refine qM (hxq.le) ?_;refine qT (i := 7) (qB 9 255) (hxq.le) rfl rfl (oF 2 underlying34 sizeOf32 qF) ?_;refine qO (i := 8) (qB 9 511) rfl ?_;refine vq (u := v111) (by repeat constructor) (fun hcv => ?_);refine qz trivial rfl rfl (hcv).1 sizeOf32 (hcv).2 (by repeat constructor) (by exact Nat.le_of_ble_eq_true rfl) ?_;refine qM (hxq.le) ?_;refine qn (by kernel_rfl) ?_;refine qe (tC (cR ?_))
   (refine qf trivial rfl rfl rfl ?_ ?_; (omega))
   refine oV ?_;refine oN ?_;exact qj (j + 1,v111) (sC rfl (sC rfl (sC rfl (sC rfl (sC rfl (sC rfl sN)))))) (fun _ h => by rw [List.take_add_one,hs,Option.toList_some,List.map_append,List.map_cons,List.map_nil,← y6]; exact h.sort (by repeat constructor)) (by show p.outs.length - (j + 1) < p.outs.length - j; omega) (by show j + 1 ≤ _; omega)
  refine qP (qB 9 29) rfl ?_;refine qir trivial rfl rfl call26 rfl rfl (hplace s pl hpl) (by repeat constructor) ?_;rintro _ _ _ hxq ⟨rfl,rfl,rfl⟩;refine qM (hxq.le) ?_;refine h_go [1,5] (by kernel_rfl) rfl (TWHs.cons ?_ (TWHs.cons ?_ TWHs.nil))
  ·
   refine qP (qB 9 31) rfl ?_;refine oL isAgg32 ?_;refine qM (hxq.le) ?_;refine qO (i := 5) (qB 9 63) rfl ?_;refine oB underlying32 sizeOf3 zeroValue3 fun b110 => ?_;refine qM (hxq.le) ?_;refine qO (i := 6) (qB 9 127) rfl ?_;refine oD underlying32 vp fun v111 => ?_;refine qM (hxq.le) ?_;refine qT (i := 7) (qB 9 255) (hxq.le) rfl rfl (oF 2 underlying34 sizeOf32 qF) ?_;refine qO (i := 8) (qB 9 511) rfl ?_;refine vq (u := v111) (by repeat constructor) (fun hcv => ?_);refine qz trivial rfl rfl (hcv).1 sizeOf32 (hcv).2 (by repeat constructor) (by exact Nat.le_of_ble_eq_true rfl) ?_;refine qM (hxq.le) ?_;refine qn (by kernel_rfl) ?_;refine qe (tC (cR ?_))
   (refine qf trivial rfl rfl rfl ?_ ?_; (omega))
   refine oV ?_;refine oN ?_;exact qj (j + 1,v111) (sC rfl (sC rfl (sC rfl (sC rfl (sC rfl (sC rfl sN)))))) (fun _ h => by rw [List.take_add_one,hs,Option.toList_some,List.map_append,List.map_cons,List.map_nil,← y6]; exact h.sort (by repeat constructor)) (by show p.outs.length - (j + 1) < p.outs.length - j; omega) (by show j + 1 ≤ _; omega)
  refine qP (qB 9 61) rfl ?_;refine oB underlying32 sizeOf3 zeroValue3 fun b110 => ?_;refine qM (hxq.le) ?_;refine qO (i := 1) (qB 9 63) rfl ?_;refine oL isAgg32 ?_;refine qM (hxq.le) ?_;refine qO (i := 6) (qB 9 127) rfl ?_;refine oD underlying32 vp fun v111 => ?_;refine qM (hxq.le) ?_;refine qT (i := 7) (qB 9 255) (hxq.le) rfl rfl (oF 2 underlying34 sizeOf32 qF) ?_;refine qO (i := 8) (qB 9 511) rfl ?_;refine vq (u := v111) (by repeat constructor) (fun hcv => ?_);refine qz trivial rfl rfl (hcv).1 sizeOf32 (hcv).2 (by repeat constructor) (by exact Nat.le_of_ble_eq_true rfl) ?_;refine qM (hxq.le) ?_;refine qn (by kernel_rfl) ?_;refine qe (tC (cR ?_))
  (refine qf trivial rfl rfl rfl ?_ ?_; (omega))
  refine oV ?_;refine oN ?_;exact qj (j + 1,v111) (sC rfl (sC rfl (sC rfl (sC rfl (sC rfl (sC rfl sN)))))) (fun _ h => by rw [List.take_add_one,hs,Option.toList_some,List.map_append,List.map_cons,List.map_nil,← y6]; exact h.sort (by repeat constructor)) (by show p.outs.length - (j + 1) < p.outs.length - j; omega) (by show j + 1 ≤ _; omega)
 have f6 := h6;try simp only [bl] at f6
 have hje : j = p.outs.length := by omega
 subst hje
 rw [List.take_length]
 refine qq (qc (qc (qp rfl (tC (cS (cS ?_))))));refine qa0 (u := u) (xss := ocs os) (by repeat constructor) (qpe os) (qpf os) (by unfold maxLen; omega) (fun I3 hx3 hs3 => ?_);refine qa0 (u := uu) (xss := ics (p.outs.map (plcZ p pl))) (by repeat constructor) (by rw [qcm,List.length_map]) (qsf _) (by unfold maxLen; omega) (fun I4 hx4 hs4 => ?_)
 have htv : ji I4 u uu (lowT p) os := by
   rw [hlt]
   exact ⟨hs3.le hx4.le,fun o ho => (hok o ho).1.le (hx3.le.trans hx4.le),rfl,hs4⟩
 have hfw : ∀ o ∈ (lowT p).ops,OpC.few 3000 o := by
   rw [hlt]
   intro o ho
   obtain ⟨x,hx,rfl⟩ := List.mem_map.1 ho
   exact (hok x hx).2
 have hright := qoa (lowT p) u uu os htv (fun o ho => ⟨Nat.le_trans (hfw o ho).1 (by decide),Nat.le_trans (hfw o ho).2 (by decide)⟩)
 have hti : (lowT p).ins = (p.ins.length : Nat) := rfl
 rw [hti] at hright
 refine cR ?_;refine oA isAgg34 sizeOf34 ?_;refine oQ call28 rfl hright ?_;refine oV ?_;refine nT ?_;refine cC rfl (fun h7 => ?_) (fun h7 => ?_)
 ·
  have f7 := h7;try simp only [bl] at f7
  refine sR ?_;refine vg trivial rfl (qcg) rfl .nil ?_;refine oS sizeOf34 ?_;iterate 2 refine oV ?_
  refine nF ?_;refine retR rfl (.agg isAgg34 sizeOf34 rfl (by repeat constructor) rfl (.tmp rfl (.tmp rfl .nil))) ?_;refine leaf (hx1.trans (hx2.trans (hx3.trans hx4 (Nat.le_refl _)) (Nat.le_refl _)) (Nat.le_refl _)) (List.nil_sublist _) ?_
  rw [hz,if_neg (by simpa using h7)]
  exact ⟨N0,N0,[],rfl,⟨Slc.nil _ _,fun o ho => (by cases ho),rfl,Slc.nil _ _⟩,fun o ho => by cases ho⟩
 have f7 := h7;try simp only [bl] at f7
 refine kS ?_;refine oA isAgg34 sizeOf34 ?_;refine oS sizeOf34 ?_;iterate 2 refine oV ?_
 refine nE ?_;refine retR rfl (.agg isAgg34 sizeOf34 rfl (by repeat constructor) rfl (.tmp rfl (.tmp rfl .nil))) ?_;refine leaf (hx1.trans (hx2.trans (hx3.trans hx4 (Nat.le_refl _)) (Nat.le_refl _)) (Nat.le_refl _)) (List.nil_sublist _) ?_
 rw [hz,if_pos (by simpa using h7)]
 exact ⟨u,uu,os,rfl,htv,hfw⟩
theorem take_more {α : Type} {l m : List α} {i : Nat} {x y : α} (h : l.take i = m.take i) (hx : l[i]? = some x) (hy : m[i]? = some y) (e : x = y) : l.take (i + 1) = m.take (i + 1) := by
 rw [List.take_add_one,List.take_add_one,h,hx,hy,e]
theorem q2i (vi vl vo va : Value) (p : qx) (ns : List qk) (s : ByteArray) (pl : List Int) {I : Hp} (b n : Nat) (hp : y5 I vi vl vo va p ns) (hf : ∀ o ∈ ns, o.c.few 3000)
   (hn : pl.length = n) (hn2 : n = p.all.length) (ho : qlh p) :
   Fun prog 22 [.agg #[vi,vl,vo,va],.slice (some ⟨b,0,none⟩) n n,.string s] I [arI b pl] (fun v I' B' => I = I' ∧ v = .int .i64 (plcZ p pl s) ∧ B' = [arI b pl]) := by
 have hsi := hp.si
 have hsl := hp.sl
 have hso := hp.so
 have hsa := hp.sa
 have hll : (p.lets.map LetC.cells).length = p.lets.length := List.length_map _
 unfold arI
 intro w hw
 refine j5 _ func22 rfl ntmps22 rfl ?_ hw;refine sR ?_;refine qo trivial rfl rfl rfl (fun b3 => ?_);refine oV ?_;refine nS ?_;refine oA isAgg29 sizeOf29 ?_;refine oV ?_;refine oQ call12 rfl (qr9 vi vl vo va p ns s hp hf) ?_;iterate 7 refine oV ?_
 refine nU ?_;refine oV ?_;refine nT ?_;refine cC rfl (fun h1 => ?_) (fun h1 => ?_)
 ·
  have f1 := h1;try simp only [bl] at f1
  obtain ⟨k1,c,hc,k2,k3⟩ := ho.place s h1
  have hcl := (List.getElem?_eq_some_iff.1 hc).1
  have hpz : plcZ p pl s = pl.getD c.root.toNat 0 := by
    unfold plcZ
    rw [if_pos h1,List.getD_eq_getElem?_getD (l := p.lets),hc]; rfl
  refine sR ?_;refine oV ?_;refine oF 1 underlying29 sizeOf26 ?_;refine oL isAgg26 ?_;refine oV ?_;refine vk trivial rfl underlying26 sizeOf72 rfl (hsl) rfl (by omega) ?_;refine oF 1 underlying72 sizeOf3 ?_;refine q8 trivial rfl isAgg3 rfl (qbq hsl hc 1 _ rfl) ?_;refine yt trivial rfl underlying32 sizeOf3 rfl rfl (by omega) ?_;refine qax trivial rfl isAgg3 rfl (by repeat constructor) ((by rw [show 0 + c.root.toNat * 1 = c.root.toNat by omega]; exact qe7 (by omega))) ?_;refine oV ?_;refine nF ?_;refine ret1 rfl rfl ?_;exact fun w' hw' => ⟨I,[.box b (.cells (ivs pl).toArray 3 (0,0))],hw'.sort (by repeat constructor),Ext.refl _ _,rfl,by rw [hpz],rfl⟩
 have f1 := h1;try simp only [bl] at f1
 have hpz : plcZ p pl s = (v8 p s).2.1 := by unfold plcZ; rw [h1]; rfl
 refine kS ?_;iterate 2 refine oV ?_
 refine nE ?_;refine ret1 rfl rfl ?_;exact fun w' hw' => ⟨I,[.box b (.cells (ivs pl).toArray 3 (0,0))],hw'.sort (by repeat constructor),Ext.refl _ _,rfl,by rw [hpz]; rfl,rfl⟩
theorem q2j (vi vl vo va : Value) (p : qx) (ns : List qk) {I : Hp} (hp : y5 I vi vl vo va p ns) (hf : ∀ o ∈ ns, o.c.few 3000) :
   Fun prog 6 [.agg #[vi,vl,vo,va]] I [] (fun v I' _ => LowV (lowZ p) v I') := by
 have hsi := hp.si
 have hsl := hp.sl
 have hso := hp.so
 have hsa := hp.sa
 have hla := z4 ns
 have hlo := jf p.outs
 have hli := jf p.ins
 have hal : p.all.length = ns.length := by rw [← hp.eq,List.length_map]
 intro w hw
 refine q9 _ func6 rfl ntmps6 rfl ?_ hw;refine sR ?_;refine qo trivial rfl rfl rfl (fun b1 => ?_);refine qh trivial rfl zeroValue34 rfl (fun b2 => ?_);iterate 2 refine oV ?_
 refine nS ?_;refine oA isAgg29 sizeOf29 ?_;refine oQ call21 rfl (qr2 vi vl vo va p ns hp hf) ?_;iterate 5 refine oV ?_
 refine nU ?_;iterate 2 refine oV ?_
 refine nT ?_;refine cC rfl (fun h1 => ?_) (fun h1 => ?_)
 ·
  have f1 := h1;try simp only [bl] at f1
  have hz : lowZ p = ⟨noT,(vv p).name,(vv p).err⟩ := if_pos f1
  refine sR ?_;refine vg trivial rfl (qcg) rfl .nil ?_;iterate 2 refine oV ?_
  refine oS sizeOf34 ?_;iterate 2 refine oV ?_
  refine nF ?_;refine retR rfl (.agg isAgg34 sizeOf34 rfl (by repeat constructor) rfl (.tmp rfl (.tmp rfl .nil))) ?_;refine leaf (Ext.refl _ _) (List.nil_sublist _) ?_
  rw [hz]
  exact ⟨N0,N0,[],rfl,⟨Slc.nil _ _,fun o ho => (by cases ho),rfl,Slc.nil _ _⟩,fun o ho => by cases ho⟩
 have f1 := h1;try simp only [bl] at f1
 have hz : lowZ p = if (vw (lowT p)).isSome = true then ⟨lowT p,⟨#[]⟩,0⟩ else ⟨noT,⟨#[]⟩,4⟩ := if_neg (fun h => h f1)
 have hin := qsc f1
 obtain ⟨q1,q2,q3⟩ := hin.few
 refine kS ?_;refine oF 0 underlying29 sizeOf25 ?_;refine oL isAgg25 ?_;refine qw trivial rfl underlying25 rfl (hsi) ?_;refine vg trivial rfl (qcg) rfl (.cons rfl rfl rfl (by repeat constructor) .nil) ?_;refine qh trivial rfl zeroValue34 rfl (fun b7 => ?_);refine oS sizeOf34 ?_;refine nS ?_;refine oF 3 underlying29 sizeOf27 ?_;refine oL isAgg27 ?_;refine qw trivial rfl underlying27 rfl (hsa) ?_;refine qbu trivial rfl underlying32 qnc rfl rfl (by omega) (by omega) (by (unfold maxLen; omega)) (fun b31 => ?_);refine oV ?_;refine oN (tC (cS (cS ?_)))
 rw [Int.toNat_natCast,qse,hla,hli]
 have hplace : ∀ (s : ByteArray) (pl : List Int), pl.length = ns.length → Fun prog 22 [.agg #[vi, vl, vo, va], .slice (some ⟨b31, 0, none⟩) ns.length ns.length, .string s] I [arI b31 pl] (fun v I' B' => I = I' ∧ v = .int .i64 (plcZ p pl s) ∧ B' = [arI b31 pl]) :=
   fun s pl hpl => q2i vi vl vo va p ns s pl b31 ns.length hp hf hpl hal.symm hin
 unfold arI at hplace
 refine cR ?_;refine oV ?_;refine oN (tC (cB ?_));refine qu (ι := Nat × List Int × List OpV × Value) [1,2,7,8] (.cons rfl (.cons rfl (.cons rfl (.cons rfl .nil)))) (fun x => ns.length - x.1) (fun x E0 => (9,.int .i64 (x.1 : Nat)) :: E0) (fun x => St w [] I [.row x.2.2.2 53 7 x.2.2.1.length (ocs x.2.2.1).flatten,arI b31 x.2.1,.box b7 (.cells #[.int .i64 (p.ins.length : Nat),x.2.2.2,.slice none 0 0] 34 (0,0)),.box b2 (.cells #[.int .i64 0,.slice none 0 0,.slice none 0 0] 34 (0,0)),.box b1 (.cells #[vi,vl,vo,va] 29 (0,0))]) (fun x => x.1 ≤ ns.length ∧ x.2.1.length = ns.length ∧ x.2.2.1.length ≤ x.1 ∧ (∀ o ∈ x.2.2.1,o.ok I ∧ OpC.few 3000 o.c) ∧ z6 p = yx p (p.all.drop x.1) x.1 x.2.1 (x.2.2.1.map OpV.c)) ((0,List.replicate ns.length 0,[],.slice none 0 0)) (sC rfl (sC rfl (sC rfl (sC rfl (sC rfl sN))))) (fun _ h => (h.nilRow 53 7).sort (by repeat constructor)) (⟨Nat.zero_le _,List.length_replicate,Nat.le_refl _,fun o ho => (by cases ho),by show z6 p = yx p p.all 0 (List.replicate ns.length 0) []; rw [← hal]; rfl⟩) ?_;rintro ⟨i,pl,os,u⟩ ⟨hi,hpl,hol,hok,hgo⟩
 try dsimp only
 simp only at hi hpl hol hok hgo; have hpll := qsd pl; unfold arI
 refine cS (sR ?_);refine oV ?_;refine oF 3 underlying29 sizeOf27 ?_;refine oL isAgg27 ?_;refine qw trivial rfl underlying27 rfl (hsa) ?_;refine oV ?_;refine nT ?_;refine cC rfl (fun h2 => ?_) (fun h2 => ?_)
 ·
  have f2 := h2;try simp only [bl] at f2
  obtain ⟨o,ho⟩ : ∃ o,ns[i]? = some o := ⟨ns[i]'(by omega),List.getElem?_eq_getElem (by omega)⟩
  have hom := List.mem_of_getElem? ho
  have hoc : p.all[i]? = some o.c := by rw [← hp.eq,List.getElem?_map,ho]; rfl
  have hw1 : Ws I o.vn o.c.n := (hp.ok o hom).1
  have hw2 : Ws I o.vd o.c.d := (hp.ok o hom).2
  rw [qsb hoc] at hgo
  have hknd := hin.kind o.c (List.mem_of_getElem? hoc)
  have hlow := hin.low i o.c hoc
  refine cK (tC (cS (cB (sR ?_))));refine oF 3 underlying29 sizeOf27 ?_;refine oL isAgg27 ?_;refine oV ?_;refine vk trivial rfl underlying27 sizeOf67 rfl (hsa) rfl (by omega) ?_;refine y7 trivial rfl isAgg67 sizeOf67 rfl rfl (qa6 hsa ho) ?_;refine qh trivial rfl zeroValue67 rfl (fun b10 => ?_);refine oS sizeOf67 ?_;refine nU ?_;refine oF 0 underlying67 sizeOf3 ?_;refine oL isAgg3 ?_;refine oV ?_;refine nT ?_;refine cC rfl (fun h3 => ?_) (fun h3 => ?_)
  ·
   have f3 := h3;try simp only [bl] at f3
   rw [if_pos f3] at hgo
   refine sR ?_;iterate 2 refine oV ?_
   refine oA isAgg29 sizeOf29 ?_;refine oV ?_;refine oF 4 underlying67 sizeOf9 ?_;refine oL isAgg9 ?_;refine oC trivial rfl call22 rfl (hplace o.c.name pl hpl) (by repeat constructor) ?_;rintro _ _ _ hxq ⟨rfl,rfl,rfl⟩;refine yt trivial rfl underlying32 sizeOf3 rfl rfl (by omega) ?_;refine qz trivial rfl rfl rfl sizeOf3 rfl (by repeat constructor) (by rw [hpll]; omega) ?_
   rw [show 0 + ((i : Nat) : Int).toNat * 1 = i by omega,qh7]
   refine oN (tC (qq (qc (qp rfl (tC (cR ?_))))));refine oV ?_
   (refine qf trivial rfl rfl rfl ?_ ?_; (omega))
   refine oV ?_;refine oN ?_
   (exact qj (i + 1,pl.set i (plcZ p pl o.c.name),os,u) (sC rfl (sC rfl (sC rfl (sC rfl (sC rfl sN))))) (fun _ h => h.sort (by repeat constructor)) (by show ns.length - (i + 1) < ns.length - i; omega) ⟨by show i + 1 ≤ _; omega,by rw [List.length_set]; exact hpl,by show os.length ≤ i + 1; omega,hok,hgo⟩)
  have f3 := h3;try simp only [bl] at f3
  rw [if_neg f3,List.length_map] at hgo
  refine kS ?_;iterate 2 refine oV ?_
  refine oF 0 underlying34 sizeOf3 ?_;refine oL isAgg3 ?_;refine oF 1 underlying34 sizeOf31 ?_;refine oL isAgg31 ?_;refine yi trivial rfl underlying31 rfl (by repeat constructor) ?_
  (refine qf trivial rfl rfl rfl ?_ ?_; (omega))
  refine yt trivial rfl underlying32 sizeOf3 rfl rfl (by omega) ?_;refine qz trivial rfl rfl rfl sizeOf3 rfl (by repeat constructor) (by rw [hpll]; omega) ?_
  rw [show 0 + ((i : Nat) : Int).toNat * 1 = i by omega,qh7]
  refine oN (tC (cS ?_))
  obtain ⟨pl2,hpl2⟩ : ∃ pl2,pl2 = pl.set i ((p.ins.length : Int) + os.length) := ⟨_,rfl⟩
  have hpl2l : pl2.length = ns.length := by rw [hpl2,List.length_set]; exact hpl
  rw [← hpl2]
  rw [← hpl2] at hgo
  refine cR ?_;refine oF 0 underlying67 sizeOf3 ?_;refine oL isAgg3 ?_;refine oF 5 underlying67 sizeOf48 ?_;refine oA isAgg48 sizeOf48 ?_;refine oF 3 underlying67 sizeOf3 ?_;refine oL isAgg3 ?_;refine vg trivial rfl (qch) rfl (.cons rfl rfl rfl (by repeat constructor) (.cons rfl rfl rfl (by repeat constructor) (.cons rfl rfl rfl (by repeat constructor) .nil))) ?_;refine qh trivial rfl zeroValue53 rfl (fun b11 => ?_);refine oS sizeOf53 ?_;refine nT ?_;refine jk (ι := Int) [1,2,7,8,9,10,11] (.cons rfl (.cons rfl (.cons rfl (.cons rfl (.cons rfl (.cons rfl (.cons rfl .nil))))))) (fun z E0 => E0) (fun z => St w [] I [.box b11 (.cells [.int .i64 o.c.kind,.int .i64 z,.int .i64 0,.int .i64 o.c.e,.bool o.c.neg,o.vn,o.vd].toArray 53 (0,0)),.box b10 (.cells o.cells.toArray 67 (0,0)),.row u 53 7 os.length (ocs os).flatten,.box b31 (.cells (ivs pl2).toArray 3 (0,0)),.box b7 (.cells #[.int .i64 (p.ins.length : Nat),u,.slice none 0 0] 34 (0,0)),.box b2 (.cells #[.int .i64 0,.slice none 0 0,.slice none 0 0] 34 (0,0)),.box b1 (.cells #[vi,vl,vo,va] 29 (0,0))]) (fun z => z = if 2 ≤ o.c.kind then pl2.getD o.c.a.toNat 0 else 0) ?_ ?_
  ·
   refine sR ?_;refine oF 0 underlying67 sizeOf3 ?_;refine oL isAgg3 ?_;refine oV ?_;refine nT ?_;refine cC rfl (fun h4 => ?_) (fun h4 => ?_)
   ·
    have f4 := h4;try simp only [bl] at f4
    obtain ⟨a1,a2,_⟩ := hlow (by omega)
    refine cR ?_;refine oV ?_;refine oF 1 underlying67 sizeOf3 ?_;refine oL isAgg3 ?_;refine yt trivial rfl underlying32 sizeOf3 rfl rfl (by omega) ?_;refine qax trivial rfl isAgg3 rfl (by repeat constructor) ((by rw [show 0 + o.c.a.toNat * 1 = o.c.a.toNat by omega]; exact qe7 (by omega))) ?_;refine oF 1 underlying53 sizeOf3 ?_;refine oS sizeOf3 ?_;refine oN ?_
    (exact meet (pl2.getD o.c.a.toNat 0) (sC rfl (sC rfl (sC rfl (sC rfl (sC rfl (sC rfl (sC rfl sN))))))) (fun _ h => h.sort (by repeat constructor)) (by show _ = if 2 ≤ o.c.kind then _ else _; rw [if_pos (by omega)]))
   have f4 := h4;try simp only [bl] at f4
   refine cK ?_
   (exact meet 0 (sC rfl (sC rfl (sC rfl (sC rfl (sC rfl (sC rfl (sC rfl sN))))))) (fun _ h => h.sort (by repeat constructor)) (by show _ = if 2 ≤ o.c.kind then _ else _; rw [if_neg (by omega)]))
  rintro zA hzA
  try dsimp only
  refine jk (ι := Int) [1,2,7,8,9,11] (.cons rfl (.cons rfl (.cons rfl (.cons rfl (.cons rfl (.cons rfl .nil)))))) (fun z E0 => E0) (fun z => St w [] I [.box b11 (.cells [.int .i64 o.c.kind,.int .i64 zA,.int .i64 z,.int .i64 o.c.e,.bool o.c.neg,o.vn,o.vd].toArray 53 (0,0)),.row u 53 7 os.length (ocs os).flatten,.box b31 (.cells (ivs pl2).toArray 3 (0,0)),.box b7 (.cells #[.int .i64 (p.ins.length : Nat),u,.slice none 0 0] 34 (0,0)),.box b2 (.cells #[.int .i64 0,.slice none 0 0,.slice none 0 0] 34 (0,0)),.box b1 (.cells #[vi,vl,vo,va] 29 (0,0))]) (fun z => z = if 2 ≤ o.c.kind ∧ o.c.kind ≤ 5 then pl2.getD o.c.b.toNat 0 else 0) ?_ ?_
  ·
   refine sR ?_;refine oF 0 underlying67 sizeOf3 ?_;refine oL isAgg3 ?_;refine oV ?_;refine' oY (fun hb83 => ?_) ?_;rotate_left
   ·
    have fb83 := hb83
    try simp only [bl] at fb83
    refine gF hb83 0 underlying67 sizeOf3 ?_;refine gL hb83 isAgg3 ?_;refine gV hb83 ?_;refine oN ?_;exact qa rfl
   refine nT ?_;refine cC rfl (fun h5 => ?_) (fun h5 => ?_)
   ·
    have f5 := h5;try simp only [bl] at f5
    obtain ⟨a1,a2,a3⟩ := hlow (by omega)
    obtain ⟨a4,a5⟩ := a3 (by omega)
    refine cR ?_;refine oV ?_;refine oF 2 underlying67 sizeOf3 ?_;refine oL isAgg3 ?_;refine yt trivial rfl underlying32 sizeOf3 rfl rfl (by omega) ?_;refine qax trivial rfl isAgg3 rfl (by repeat constructor) ((by rw [show 0 + o.c.b.toNat * 1 = o.c.b.toNat by omega]; exact qe7 (by omega))) ?_;refine oF 2 underlying53 sizeOf3 ?_;refine oS sizeOf3 ?_;refine oN ?_
    (exact meet (pl2.getD o.c.b.toNat 0) (sC rfl (sC rfl (sC rfl (sC rfl (sC rfl (sC rfl sN)))))) (fun _ h => h.sort (by repeat constructor)) (by show _ = if 2 ≤ o.c.kind ∧ o.c.kind ≤ 5 then _ else _; rw [if_pos (by omega)]))
   have f5 := h5;try simp only [bl] at f5
   refine cK ?_
   (exact meet 0 (sC rfl (sC rfl (sC rfl (sC rfl (sC rfl (sC rfl sN)))))) (fun _ h => h.sort (by repeat constructor)) (by show _ = if 2 ≤ o.c.kind ∧ o.c.kind ≤ 5 then _ else _; rw [if_neg (by omega)]))
  rintro zB hzB
  try dsimp only
  subst hzA hzB hpl2
  refine cR ?_;refine oF 1 underlying34 sizeOf31 ?_;refine oL isAgg31 ?_;refine oA isAgg53 sizeOf53 ?_;refine oB underlying31 sizeOf53 zeroValue53 fun b97 => ?_;refine jb trivial rfl underlying31 (qna) (by decide) rfl rfl (fun v' => (by repeat constructor)) (by repeat constructor) rfl (by exact qph hw1 hw2) (by (unfold maxLen; omega)) (by omega) (fun v98 => ?_);refine oF 1 underlying34 sizeOf31 ?_;refine vq (u := v98) (by repeat constructor) (fun hcv => ?_);refine qz trivial rfl rfl (hcv).1 sizeOf31 (hcv).2 (by repeat constructor) (by exact Nat.le_of_ble_eq_true rfl) ?_;refine oN (qe (tC (cR ?_)));refine oV ?_
  (refine qf trivial rfl rfl rfl ?_ ?_; (omega))
  refine oV ?_;refine oN ?_
  (exact qj (i + 1, pl.set i ((p.ins.length : Int) + os.length), os ++ [⟨opL o.c (pl.set i ((p.ins.length : Int) + os.length)), o.vn, o.vd⟩], v98) (sC rfl (sC rfl (sC rfl (sC rfl (sC rfl sN))))) (fun _ h => by rw [← qpg, List.length_append]; exact h.sort (by repeat constructor)) (by show ns.length - (i + 1) < ns.length - i; omega) ⟨by show i + 1 ≤ _; omega, by rw [List.length_set]; exact hpl, by simp only [List.length_append, List.length_cons, List.length_nil]; omega, fun x hx => by
     rcases List.mem_append.1 hx with hx | hx
     · exact hok x hx
     · rw [List.mem_singleton.1 hx]; exact ⟨⟨hw1,hw2⟩,hf o hom⟩,by rw [List.map_append]; exact hgo⟩)
 have f2 := h2;try simp only [bl] at f2
 have hgo2 : z6 p = (pl,os.map OpV.c) := by
   rw [hgo,List.drop_of_length_le (by omega)]; rfl
 have hlt : lowT p = ⟨p.ins.length,os.map OpV.c,p.outs.map (plcZ p pl)⟩ := by unfold lowT; rw [hgo2]
 have hosl : os.length ≤ 400 := by omega
 refine qq (qc (qc (qp rfl (tC (cS (sR ?_))))));refine oV ?_;refine oN (tC (cB ?_));refine qu (ι := Nat × Value) [1,2,7,8] (.cons rfl (.cons rfl (.cons rfl (.cons rfl .nil)))) (fun x => p.outs.length - x.1) (fun x E0 => (12,.int .i64 (x.1 : Nat)) :: E0) (fun x => St w [] I [.row x.2 3 1 x.1 (ics ((p.outs.take x.1).map (plcZ p pl))).flatten,.row u 53 7 os.length (ocs os).flatten,.box b31 (.cells (ivs pl).toArray 3 (0,0)),.box b7 (.cells #[.int .i64 (p.ins.length : Nat),u,x.2] 34 (0,0)),.box b2 (.cells #[.int .i64 0,.slice none 0 0,.slice none 0 0] 34 (0,0)),.box b1 (.cells #[vi,vl,vo,va] 29 (0,0))]) (fun x => x.1 ≤ p.outs.length) ((0,.slice none 0 0)) (sC rfl (sC rfl (sC rfl (sC rfl (sC rfl sN))))) (fun _ h => (h.nilRow 3 1).sort (by repeat constructor)) (Nat.zero_le _) ?_;rintro ⟨j,uu⟩ hj
 try dsimp only
 simp only at hj
 refine cS (sR ?_);refine oV ?_;refine oF 2 underlying29 sizeOf25 ?_;refine oL isAgg25 ?_;refine qw trivial rfl underlying25 rfl (hso) ?_;refine oV ?_;refine nT ?_;refine cC rfl (fun h6 => ?_) (fun h6 => ?_)
 ·
  have f6 := h6;try simp only [bl] at f6
  obtain ⟨s,hs⟩ : ∃ s,p.outs[j]? = some s := ⟨p.outs[j]'(by omega),List.getElem?_eq_getElem (by omega)⟩
  refine cK (tC (cS (cB ?_)));refine yb (m := 14) [.box b1 _] (by repeat constructor) (by kernel_rfl) rfl ?_;refine qT (i := 0) (qB 14 1) (Hp.Le.refl _) rfl rfl (oF 2 underlying34 sizeOf32 qF) ?_;refine qT (i := 2) (qB 14 5) (Hp.Le.refl _) rfl rfl (oA isAgg29 sizeOf29 qF) ?_;refine qT (i := 3) (qB 14 13) (Hp.Le.refl _) rfl rfl (oV qF) ?_;refine qT (i := 4) (qB 14 29) (Hp.Le.refl _) rfl rfl (oF 2 underlying29 sizeOf25 qF) ?_;refine qT (i := 5) (qB 14 61) (Hp.Le.refl _) rfl rfl (oL isAgg25 qF) ?_;refine qT (i := 6) (qB 14 125) (Hp.Le.refl _) rfl rfl (oV qF) ?_;refine qT (i := 7) (qB 14 253) (Hp.Le.refl _) rfl rfl (vk trivial rfl underlying25 sizeOf9 rfl (hso) rfl (by omega) qF) ?_;refine qT (i := 8) (qB 14 509) (Hp.Le.refl _) rfl rfl (q8 trivial rfl isAgg9 rfl (zn hso hs) qF) ?_;refine h_go [1,9] (by kernel_rfl) rfl (TWHs.cons ?_ (TWHs.cons ?_ TWHs.nil))
  ·
   refine qP (qB 14 511) rfl ?_;refine oL isAgg32 ?_;refine qM (Hp.Le.refl _) ?_;refine qO (i := 9) (qB 14 1023) rfl ?_;refine oC trivial rfl call22 rfl (hplace s pl hpl) (by repeat constructor) ?_;rintro _ _ _ hxq ⟨rfl,rfl,rfl⟩;refine qM (hxq.le) ?_;refine qO (i := 10) (qB 14 2047) rfl ?_;refine oB underlying32 sizeOf3 zeroValue3 fun b117 => ?_;refine qM (hxq.le) ?_;refine qO (i := 11) (qB 14 4095) rfl ?_;refine oD underlying32 vp fun v118 => ?_;refine qM (hxq.le) ?_;refine qT (i := 12) (qB 14 8191) (hxq.le) rfl rfl (oF 2 underlying34 sizeOf32 qF) ?_;refine qO (i := 13) (qB 14 16383) rfl ?_;refine vq (u := v118) (by repeat constructor) (fun hcv => ?_);refine qz trivial rfl rfl (hcv).1 sizeOf32 (hcv).2 (by repeat constructor) (by exact Nat.le_of_ble_eq_true rfl) ?_;refine qM (hxq.le) ?_;refine qn (by kernel_rfl) ?_;refine qe (tC (cR ?_));refine oV ?_
   (refine qf trivial rfl rfl rfl ?_ ?_; (omega))
   refine oV ?_;refine oN ?_;exact qj (j + 1,v118) (sC rfl (sC rfl (sC rfl (sC rfl (sC rfl sN))))) (fun _ h => by rw [List.take_add_one,hs,Option.toList_some,List.map_append,List.map_cons,List.map_nil,← y6]; exact h.sort (by repeat constructor)) (by show p.outs.length - (j + 1) < p.outs.length - j; omega) (by show j + 1 ≤ _; omega)
  refine qP (qB 14 1021) rfl ?_;refine oC trivial rfl call22 rfl (hplace s pl hpl) (by repeat constructor) ?_;rintro _ _ _ hxq ⟨rfl,rfl,rfl⟩;refine qM (hxq.le) ?_;refine h_go [1,10] (by kernel_rfl) rfl (TWHs.cons ?_ (TWHs.cons ?_ TWHs.nil))
  ·
   refine qP (qB 14 1023) rfl ?_;refine oL isAgg32 ?_;refine qM (hxq.le) ?_;refine qO (i := 10) (qB 14 2047) rfl ?_;refine oB underlying32 sizeOf3 zeroValue3 fun b117 => ?_;refine qM (hxq.le) ?_;refine qO (i := 11) (qB 14 4095) rfl ?_;refine oD underlying32 vp fun v118 => ?_;refine qM (hxq.le) ?_;refine qT (i := 12) (qB 14 8191) (hxq.le) rfl rfl (oF 2 underlying34 sizeOf32 qF) ?_;refine qO (i := 13) (qB 14 16383) rfl ?_;refine vq (u := v118) (by repeat constructor) (fun hcv => ?_);refine qz trivial rfl rfl (hcv).1 sizeOf32 (hcv).2 (by repeat constructor) (by exact Nat.le_of_ble_eq_true rfl) ?_;refine qM (hxq.le) ?_;refine qn (by kernel_rfl) ?_;refine qe (tC (cR ?_));refine oV ?_
   (refine qf trivial rfl rfl rfl ?_ ?_; (omega))
   refine oV ?_;refine oN ?_;exact qj (j + 1,v118) (sC rfl (sC rfl (sC rfl (sC rfl (sC rfl sN))))) (fun _ h => by rw [List.take_add_one,hs,Option.toList_some,List.map_append,List.map_cons,List.map_nil,← y6]; exact h.sort (by repeat constructor)) (by show p.outs.length - (j + 1) < p.outs.length - j; omega) (by show j + 1 ≤ _; omega)
  refine qP (qB 14 2045) rfl ?_;refine oB underlying32 sizeOf3 zeroValue3 fun b117 => ?_;refine qM (hxq.le) ?_;refine qO (i := 1) (qB 14 2047) rfl ?_;refine oL isAgg32 ?_;refine qM (hxq.le) ?_;refine qO (i := 11) (qB 14 4095) rfl ?_;refine oD underlying32 vp fun v118 => ?_;refine qM (hxq.le) ?_;refine qT (i := 12) (qB 14 8191) (hxq.le) rfl rfl (oF 2 underlying34 sizeOf32 qF) ?_;refine qO (i := 13) (qB 14 16383) rfl ?_;refine vq (u := v118) (by repeat constructor) (fun hcv => ?_);refine qz trivial rfl rfl (hcv).1 sizeOf32 (hcv).2 (by repeat constructor) (by exact Nat.le_of_ble_eq_true rfl) ?_;refine qM (hxq.le) ?_;refine qn (by kernel_rfl) ?_;refine qe (tC (cR ?_));refine oV ?_
  (refine qf trivial rfl rfl rfl ?_ ?_; (omega))
  refine oV ?_;refine oN ?_;exact qj (j + 1,v118) (sC rfl (sC rfl (sC rfl (sC rfl (sC rfl sN))))) (fun _ h => by rw [List.take_add_one,hs,Option.toList_some,List.map_append,List.map_cons,List.map_nil,← y6]; exact h.sort (by repeat constructor)) (by show p.outs.length - (j + 1) < p.outs.length - j; omega) (by show j + 1 ≤ _; omega)
 have f6 := h6;try simp only [bl] at f6
 have hje : j = p.outs.length := by omega
 subst hje
 rw [List.take_length]
 refine qq (qc (qc (qp rfl (tC (cS ?_)))));refine qa0 (u := u) (xss := ocs os) (by repeat constructor) (qpe os) (qpf os) (by unfold maxLen; omega) (fun I3 hx3 hs3 => ?_);refine qa0 (u := uu) (xss := ics (p.outs.map (plcZ p pl))) (by repeat constructor) (by rw [qcm,List.length_map]) (qsf _) (by unfold maxLen; omega) (fun I4 hx4 hs4 => ?_)
 have htv : ji I4 u uu (lowT p) os := by
   rw [hlt]
   exact ⟨hs3.le hx4.le,fun o ho => (hok o ho).1.le (hx3.le.trans hx4.le),rfl,hs4⟩
 have hfw : ∀ o ∈ (lowT p).ops,OpC.few 3000 o := by
   rw [hlt]
   intro o ho
   obtain ⟨x,hx,rfl⟩ := List.mem_map.1 ho
   exact (hok x hx).2
 have hright := qxy (lowT p) u uu os htv hfw
 have hti : (lowT p).ins = (p.ins.length : Nat) := rfl
 rw [hti] at hright
 refine cR ?_;refine oA isAgg34 sizeOf34 ?_;refine oQ call23 rfl hright ?_;refine oV ?_;refine nU ?_;iterate 2 refine oV ?_
 refine nT ?_;refine cC rfl (fun h7 => ?_) (fun h7 => ?_)
 ·
  have f7 := h7;try simp only [bl] at f7
  refine sR ?_;refine vg trivial rfl (qcg) rfl .nil ?_;refine oS sizeOf34 ?_;iterate 2 refine oV ?_
  refine nF ?_;refine retR rfl (.agg isAgg34 sizeOf34 rfl (by repeat constructor) rfl (.tmp rfl (.tmp rfl .nil))) ?_;refine leaf (hx3.trans hx4 (Nat.le_refl _)) (List.nil_sublist _) ?_
  rw [hz,if_neg (by simpa using h7)]
  exact ⟨N0,N0,[],rfl,⟨Slc.nil _ _,fun o ho => (by cases ho),rfl,Slc.nil _ _⟩,fun o ho => by cases ho⟩
 have f7 := h7;try simp only [bl] at f7
 refine kS ?_;refine oA isAgg34 sizeOf34 ?_;refine oS sizeOf34 ?_;iterate 2 refine oV ?_
 refine nE ?_;refine retR rfl (.agg isAgg34 sizeOf34 rfl (by repeat constructor) rfl (.tmp rfl (.tmp rfl .nil))) ?_;refine leaf (hx3.trans hx4 (Nat.le_refl _)) (List.nil_sublist _) ?_
 rw [hz,if_pos (by simpa using h7)]
 exact ⟨u,uu,os,rfl,htv,hfw⟩
theorem q2k {p : qx} (h : (lowZ p).err = 0) : (vv p).err = 0 ∧ lowZ p = ⟨lowT p,⟨#[]⟩,0⟩ ∧ (vw (lowT p)).isSome = true := by
 unfold lowZ at h ⊢
 split at h
 · rename_i h1; exact absurd h h1
 · rename_i h1
   split at h
   · rename_i h2
     exact ⟨by omega,by rw [if_neg h1,if_pos h2],h2⟩
   · cases h
theorem qlw {I : Hp} {v : Value} {rs : List RV} (h : Slc I 3 v (rcs rs)) {i : Nat} {r : RV} (hr : rs[i]? = some r) : ∀ k y, ([.bool (decide (r.q.num < 0)), r.vn, r.vd] : List Value)[k]? = some y → I.cell? ⟨slcB v, slcO v + i * 3 + k, none⟩ = some y :=
 h.cells i _ (by unfold rcs; rw [List.getElem?_map,hr]; rfl)
theorem q2l {r : Option (List Rat)} : ∀ e, denX r = .error e → e ≠ 0 := fun e h => by
 cases r with
 | none => cases h; decide
 | some v => cases h
theorem q2m {r : Option (List Rat)} (h : qdb (denX r) ≠ 0) : r = none := by
 cases r with
 | none => rfl
 | some v => exact absurd rfl h
theorem q2n {r : Option (List Rat)} (h : qdb (denX r) = 0) : ∃ vs,r = some vs := by
 cases r with
 | none => cases h
 | some v => exact ⟨v,rfl⟩
theorem qs6 {l : List Rat} {i : Int} (h : 0 ≤ i ∧ i < l.length) : l[i.toNat]? = some (zth l i) := by
 unfold zth
 rw [List.getD_eq_getElem?_getD,List.getElem?_eq_getElem (by omega : i.toNat < l.length)]; rfl
theorem qs7 {α β : Type} {f : α → β} {l : List α} {i : Nat} {b : β} (h : (l.map f)[i]? = some b) : ∃ a,l[i]? = some a ∧ f a = b := by
 rw [List.getElem?_map] at h
 cases hl : l[i]? with
 | none => rw [hl] at h; cases h
 | some a => rw [hl] at h; exact ⟨a,rfl,Option.some.inj h⟩
theorem q2o (ins outs : Int) (vt vs : Value) (ts : List TrC) (ss : List jm) {I : Hp} (hi : 0 ≤ ins ∧ ins ≤ 255) (ho : 0 ≤ outs ∧ outs ≤ 255) (ht : TrV I vt ts) (hs : SmV I vs ss) :
   Fun prog 3 [.int .u8 ins,.int .u8 outs,vt,vs] I [] (fun v _ _ => v = .bool true) := by
 have htl : (ts.map TrC.cells).length = ts.length := List.length_map _
 intro w hw
 refine qfd _ func3 rfl ntmps3 rfl ?_ hw;refine sR ?_;refine oV ?_;refine nS ?_;refine oQ call4 rfl qyb ?_;refine oV ?_;refine nU ?_;refine oV ?_;refine qw trivial rfl underlying22 rfl (ht.s) ?_;refine oV ?_;refine nT ?_;refine cC rfl (fun h1 => ?_) (fun h1 => ?_)
 ·
  have f1 := h1;try simp only [bl] at f1
  refine sR ?_;iterate 2 refine oV ?_
  refine nF ?_;refine ret1 rfl rfl ?_;exact qg rfl
 have f1 := h1;try simp only [bl] at f1
 refine kS ?_;iterate 3 refine oV ?_
 refine oI call5 rfl (q2f ins outs vt ts hi ho ht) ?_;rintro _ I1 hx1 ⟨vi,vl,vo,va,p,ns,rfl,hp,hf⟩
 have hsi := hp.si
 have hsl := hp.sl
 have hso := hp.so
 have hsa := hp.sa
 have hli := jf p.ins
 have hlo := jf p.outs
 refine qh trivial rfl zeroValue29 rfl (fun b10 => ?_);refine oS sizeOf29 ?_;refine nS ?_;refine oA isAgg29 sizeOf29 ?_;refine oI call6 rfl (q2j vi vl vo va p ns hp hf) ?_;rintro _ I2 hx2 ⟨wo,wu,os,rfl,ht2,hf2⟩;refine oV ?_
 have hto := ht2.so
 have htu := ht2.su
 iterate 3 refine oV ?_
 refine qh trivial rfl zeroValue34 rfl (fun b11 => ?_);refine oS sizeOf34 ?_;iterate 2 refine oV ?_
 refine nU ?_;iterate 2 refine oV ?_
 refine nT ?_;refine cC rfl (fun h2 => ?_) (fun h2 => ?_)
 ·
  have f2 := h2;try simp only [bl] at f2
  refine sR ?_;iterate 2 refine oV ?_
  refine nF ?_;refine ret1 rfl rfl ?_;exact leaf (hx1.trans hx2 (Nat.le_refl _)) (List.nil_sublist _) rfl
 have f2 := h2;try simp only [bl] at f2
 obtain ⟨hrd,hlow,hw⟩ := q2k f2
 obtain ⟨l,hr,hkn,hou⟩ := qsl hrd
 rw [hlow] at ht2 hf2
 have ht2 : ji I2 wo wu (lowT p) os := ht2
 have hf2 : ∀ o ∈ (lowT p).ops,OpC.few 3000 o := hf2
 have hwr := qo2 (lowT p) wo wu os ht2 hf2
 have hlt := fun (I : Hp) (h : y5 I vi vl vo va p ns) => q2h vi vl vo va p ns h hf
 rw [hlow] at hlt ⊢
 have hfa : ∀ c ∈ p.all, NodeC.few 3000 c := fun c hc => by
   rw [← hp.eq] at hc
   obtain ⟨o,ho,rfl⟩ := List.mem_map.1 hc
   exact hf o ho
 have hi40 := hr.ins.2.2
 have ho40 := hr.outs.2.2
 refine kS ?_;refine oA isAgg34 sizeOf34 ?_;refine oI call7 rfl hwr ?_;rintro u1 I3 hx3 hs3;refine oV ?_;refine oN (tC (cS (cS ?_)))
 have hn1 := qjz ((vw (lowT p)).getD [])
 have hm1 := hs3.most
 unfold maxLen at hm1
 refine cR ?_;refine oV ?_;refine oN (tC (cB ?_));refine qu (ι := Nat) [3,9,10,14] (.cons rfl (.cons rfl (.cons rfl (.cons rfl .nil)))) (fun x => (nls ((vw (lowT p)).getD [])).length - x) (fun x E0 => (15,.int .i64 (x : Nat)) :: E0) (fun x => St w [] I3 [.box b10 (.cells #[vi,vl,vo,va] 29 (0,0))]) (fun x => x ≤ (nls ((vw (lowT p)).getD [])).length) (0) (sC rfl (sC rfl (sC rfl (sC rfl (sC rfl sN))))) (fun _ h => h.sort (by repeat constructor)) (Nat.zero_le _) ?_;rintro i hi
 try dsimp only
 refine cS (sR ?_);iterate 2 refine oV ?_
 refine qw trivial rfl underlying32 rfl (hs3) ?_;refine oV ?_;refine nT ?_;refine cC rfl (fun h3 => ?_) (fun h3 => ?_)
 ·
  have f3 := h3;try simp only [bl] at f3
  obtain ⟨k,hk⟩ : ∃ k,((vw (lowT p)).getD [])[i]? = some k := ⟨_,List.getElem?_eq_getElem (by rw [← hn1]; omega)⟩
  refine cK (tC (cS (cB (sR ?_))));iterate 2 refine oV ?_
  refine vk trivial rfl underlying32 sizeOf3 rfl (hs3) rfl (by omega) ?_;refine q8 trivial rfl isAgg3 rfl (hs3.cells i _ (by unfold nls; rw [List.getElem?_map,hk]; rfl) 0 _ rfl) ?_;refine oV ?_;refine nT ?_;refine cC rfl (fun h4 => ?_) (fun h4 => ?_)
  ·
   have f4 := h4;try simp only [bl] at f4
   refine sR ?_;iterate 2 refine oV ?_
   refine oN (tC (cT (qd (tR (tR (qd (tR ?_)))))));refine ret1 rfl rfl ?_;exact leaf (hx1.trans (hx2.trans hx3 (Nat.le_refl _)) (Nat.le_refl _)) (List.nil_sublist _) rfl
  have f4 := h4;try simp only [bl] at f4
  refine cK (qe (tC (cR ?_)));refine oV ?_
  (refine qf trivial rfl rfl rfl ?_ ?_; (omega))
  refine oV ?_;refine oN ?_;exact qj (i + 1) (sC rfl (sC rfl (sC rfl (sC rfl (sC rfl sN))))) (fun _ h => h) (by show _ - (i + 1) < _ - i; omega) (by show i + 1 ≤ _; omega)
 have f3 := h3;try simp only [bl] at f3
 refine qq (qc (qc (qp rfl (tC (cS ?_)))))
 have hp3 := hp.le (hx2.le.trans hx3.le)
 refine cR ?_;refine oA isAgg29 sizeOf29 ?_;refine oI call8 rfl (hlt I3 hp3) ?_;rintro _ I4 hx4 ⟨wo3,wu3,os3,rfl,ht4,hf4⟩;refine oV ?_
 have ht4 : ji I4 wo3 wu3 (lowT p) os3 := ht4
 have hto4 := ht4.so
 have htu4 := ht4.su
 iterate 3 refine oV ?_
 refine qh trivial rfl zeroValue34 rfl (fun b16 => ?_);refine oS sizeOf34 ?_;iterate 2 refine oV ?_
 refine nS ?_;refine oF 0 underlying29 sizeOf25 ?_;refine oL isAgg25 ?_;refine qw trivial rfl underlying25 rfl (hp3.si.le hx4.le) ?_;refine oV ?_;refine oI call9 rfl (q1s (scs p.ins).length vs ss (by omega) (hs.le (hx1.le.trans (hx2.le.trans (hx3.le.trans hx4.le))))) ?_;rintro v71 I5 hx5 hp5;refine oV ?_;refine oN (tC (cS ?_))
 obtain ⟨xs,hpt,hxq,hxv⟩ := RsV.pt hp5
 have hxl : xs.length = p.ins.length := by
   rw [← List.length_map (f := NV.q),hxq,q1q,hli]
 have hxb : ∀ x ∈ xs, BdQ 1 x.q := fun x hx => by
   obtain ⟨q,vn,vd,hq,rfl⟩ := hxv x hx
   rw [NV.of_q]; exact qsh hs.ok _ q hq
 have hxn : ∀ x ∈ xs, x.n.length ≤ 3000 ∧ x.d.length ≤ 3000 := fun x hx => by
   obtain ⟨q,vn,vd,hq,rfl⟩ := hxv x hx
   exact qen (qsh hs.ok _ q hq)
 obtain ⟨hev,hdk⟩ := q1y hrd hr hkn hou hw hxl hfa hxb hxn
 have hdo := q1w hrd hr hkn hou hw hxl
 have hp5' := hp3.le (hx4.le.trans hx5.le)
 refine cR ?_;refine oA isAgg29 sizeOf29 ?_;refine oV ?_;refine oI call10 rfl (qpc (q19 vi vl vo va _ p ns xs l hf hxl hxn hr hp5' hpt hdk) q2l) ?_;rintro _ I6 hx6 ⟨u6,rfl,r6⟩;iterate 5 refine oV ?_
 refine nS ?_;refine oA isAgg34 sizeOf34 ?_;refine oV ?_;refine oI call11 rfl (qpc (qoi (lowT p) wo3 wu3 _ os3 xs (ht4.le (hx5.le.trans hx6.le)) (hpt.le hx6.le) hev) qye) ?_;rintro _ I7 hx7 ⟨u7,rfl,r7⟩;iterate 5 refine oV ?_
 refine oN (tC (cS (cS ?_)))
 obtain ⟨rs6,q1,q2,q3⟩ := (r6.le hx7.le).out
 obtain ⟨rs7,q4,q5,q6⟩ := r7.out
 have hl6 := qao rs6
 have hl7 := qao rs7
 have hx17 : Ext w.heap.size I I7 := hx1.trans (hx2.trans (hx3.trans (hx4.trans (hx5.trans (hx6.trans hx7 (Nat.le_refl _)) (Nat.le_refl _)) (Nat.le_refl _)) (Nat.le_refl _)) (Nat.le_refl _)) (Nat.le_refl _)
 have hp7 := hp5'.le (hx6.le.trans hx7.le)
 have hpt7 := hpt.le (hx6.le.trans hx7.le)
 refine cR ?_;iterate 2 refine oV ?_
 refine' oZ (fun hb86 => ?_) ?_;rotate_left
 ·
  iterate 2 refine gV hb86 ?_
  refine oN ?_;exact qa rfl
 refine nT ?_;refine cC rfl (fun h5 => ?_) (fun h5 => ?_)
 ·
  have f5 := h5;try simp only [bl] at f5
  have hno : denE (p.ins.zip (xs.map NV.q)) l = none := q2m (by simpa using f5)
  rw [hno] at hdo
  have hdo : qaf (lowT p) xs = .error 3 := hdo
  rw [hdo] at q6
  have h70 : rs7 = [] := List.map_eq_nil_iff.1 q6
  refine sR ?_;refine oV ?_;refine' oY (fun hb91 => ?_) ?_;rotate_left
  ·
   iterate 2 refine gV hb91 ?_
   refine oN ?_;exact qa rfl
  refine' oY (fun hb95 => ?_) ?_;rotate_left
  ·
   iterate 3 refine gV hb95 ?_
   refine oN ?_;exact qa rfl
  refine' oY (fun hb100 => ?_) ?_;rotate_left
  ·
   have fb100 := hb100
   try simp only [bl] at fb100
   refine gV hb100 ?_;refine qw (wS rfl rfl hb100) rfl underlying39 rfl (q4) ?_;refine gV hb100 ?_;refine oN ?_;exact qa rfl
  refine oV ?_;refine nF ?_;refine ret1 rfl rfl ?_;refine leaf hx17 (List.nil_sublist _) (congrArg Value.bool ?_); rw [hno,hdo,h70]; rfl
 have f5 := h5;try simp only [bl] at f5
 obtain ⟨vs,hsome⟩ := q2n (r := denE (p.ins.zip (xs.map NV.q)) l) (by simpa using f5)
 rw [hsome] at hdo q3
 have hdo : qaf (lowT p) xs = .ok (p.outs.map (outE p vs (xs.map NV.q))) := hdo
 rw [hdo] at q6
 have q3 : rs6.map RV.q = vs := q3
 have q6 : rs7.map RV.q = p.outs.map (outE p vs (xs.map NV.q)) := q6
 have hl70 : rs7.length = p.outs.length := by rw [← List.length_map (f := RV.q),q6,List.length_map]
 refine cK (tC (cS (sR ?_)));refine oV ?_;refine qw trivial rfl underlying39 rfl (q4) ?_;refine oF 2 underlying29 sizeOf25 ?_;refine oL isAgg25 ?_;refine qw trivial rfl underlying25 rfl (hp7.so) ?_;refine oV ?_;refine nT ?_;refine cC rfl (fun h6 => ?_) (fun h6 => ?_)
 ·
  have f6 := h6;try simp only [bl] at f6
  exfalso
  omega
 have f6 := h6;try simp only [bl] at f6
 refine cK (tC (cS (sR ?_)));refine oV ?_;refine oN (tC (cB ?_));refine qu (ι := Nat × Hp) [9,10,19,20,22,23] (.cons rfl (.cons rfl (.cons rfl (.cons rfl (.cons rfl (.cons rfl .nil)))))) (fun x => p.outs.length - x.1) (fun x E0 => (24,.int .i64 (x.1 : Nat)) :: E0) (fun x => St w [] x.2 [.box b10 (.cells #[vi,vl,vo,va] 29 (0,0))]) (fun x => x.1 ≤ p.outs.length ∧ Ext w.heap.size I7 x.2) ((0,I7)) (sC rfl (sC rfl (sC rfl (sC rfl (sC rfl (sC rfl (sC rfl sN))))))) (fun _ h => h.sort (by repeat constructor)) (⟨Nat.zero_le _,Ext.refl _ _⟩) ?_;rintro ⟨j,I8⟩ ⟨hj,hx8⟩
 try dsimp only
 simp only at hj hx8
 refine cS (sR ?_);iterate 2 refine oV ?_
 refine qw trivial rfl underlying39 rfl (q4.le hx8.le) ?_;refine oV ?_;refine nT ?_;refine cC rfl (fun h7 => ?_) (fun h7 => ?_)
 ·
  have f7 := h7;try simp only [bl] at f7
  obtain ⟨s,hsj⟩ : ∃ s,p.outs[j]? = some s := ⟨p.outs[j]'(by omega),List.getElem?_eq_getElem (by omega)⟩
  obtain ⟨r,hrj⟩ : ∃ r,rs7[j]? = some r := ⟨rs7[j]'(by omega),List.getElem?_eq_getElem (by omega)⟩
  obtain ⟨k1,k2⟩ := (q5 r (List.mem_of_getElem? hrj)).le hx8.le
  have hrq : r.q = outE p vs (xs.map NV.q) s := by
    have h1 : (rs7.map RV.q)[j]? = some r.q := by rw [List.getElem?_map,hrj]; rfl
    rw [q6,List.getElem?_map,hsj] at h1
    exact (Option.some.inj h1).symm
  obtain ⟨hvl,hat⟩ := q1x hrd hr hkn hou (xs := xs.map NV.q) (by rw [List.length_map]; exact hxl) hsome (List.mem_of_getElem? hsj)
  have hsi8 := (hp7.le hx8.le).si
  have hsl8 := (hp7.le hx8.le).sl
  have hso8 := (hp7.le hx8.le).so
  have hsa8 := (hp7.le hx8.le).sa
  refine cK (tC (cS (cB (cS ?_))));refine jn (by kernel_rfl) (by kernel_rfl) (fun _ h => h.drawn) ?_;refine oA isAgg29 sizeOf29 ?_;refine oF 2 underlying29 sizeOf25 ?_;refine oL isAgg25 ?_;refine oV ?_;refine vk trivial rfl underlying25 sizeOf9 rfl (hso8) rfl (by omega) ?_;refine q8 trivial rfl isAgg9 rfl (zn hso8 hsj) ?_;refine oQ call12 rfl (qr9 vi vl vo va p ns s (hp7.le hx8.le) hf) ?_;iterate 7 refine oV ?_
  refine nS ?_;refine oI call13 rfl (qel 0 (by decide)) ?_;rintro _ I9 hx9 ⟨u1,u2,rfl,m1,m2⟩;refine qh trivial rfl zeroValue48 rfl (fun b28 => ?_);refine oS sizeOf48 ?_;refine nU ?_;refine oV ?_;refine nT ?_;refine cC rfl (fun h8 => ?_) (fun h8 => ?_)
  ·
   have f8 := h8;try simp only [bl] at f8
   have hin : 0 ≤ (v8 p s).2.1 ∧ (v8 p s).2.1 < (rs6.map RV.q).length := by
     rcases hat with ⟨_,h2,h3⟩ | ⟨h1,_,_⟩
     · rw [q3]; exact ⟨h2,h3⟩
     · rw [h1] at h8; cases h8
   obtain ⟨r6,hr6,hq6⟩ := qs7 (qs6 hin)
   have hrr : r.q = r6.q := by rw [hrq,hq6]; unfold outE; rw [if_pos h8,q3]
   obtain ⟨n1,n2⟩ := (q2 r6 (List.mem_of_getElem? hr6)).le (hx8.le.trans hx9.le)
   rw [List.length_map] at hin
   refine cR ?_;iterate 2 refine oV ?_
   refine vk trivial rfl underlying39 sizeOf48 rfl (q1.le (hx8.le.trans hx9.le)) rfl (by omega) ?_;refine y7 trivial rfl isAgg48 sizeOf48 rfl rfl (qlw (q1.le (hx8.le.trans hx9.le)) hr6) ?_;refine oS sizeOf48 ?_;refine oN (tC (cS ?_));refine jn (by kernel_rfl) (by kernel_rfl) (fun _ h => h.drawn) ?_;iterate 2 refine oV ?_
   refine vk trivial rfl underlying39 sizeOf48 rfl (q4.le (hx8.le.trans hx9.le)) rfl (by omega) ?_;refine y7 trivial rfl isAgg48 sizeOf48 rfl rfl (qlw (q4.le (hx8.le.trans hx9.le)) hrj) ?_;refine oA isAgg48 sizeOf48 ?_;refine oQ call14 rfl (qdf _ _ _ _ _ _ _ _ _ _ (k1.le hx9.le) (k2.le hx9.le) n1 n2) ?_;refine oV ?_;refine nT ?_;refine cC rfl (fun h9 => ?_) (fun h9 => ?_)
   ·
    have f9 := h9;try simp only [bl] at f9
    exfalso
    rw [hrr] at h9
    simp [NV.of] at h9
   have f9 := h9;try simp only [bl] at f9
   refine cK (qe (tC (cR ?_)));refine oV ?_
   (refine qf trivial rfl rfl rfl ?_ ?_; (omega))
   refine oV ?_;refine oN ?_;exact qj (j + 1,I9) (sC rfl (sC rfl (sC rfl (sC rfl (sC rfl (sC rfl (sC rfl sN))))))) (fun _ h => h.sort (by repeat constructor)) (by show p.outs.length - (j + 1) < p.outs.length - j; omega) ⟨by show j + 1 ≤ _; omega,hx8.trans hx9 (Nat.le_refl _)⟩
  have f8 := h8;try simp only [bl] at f8
  have hin : 0 ≤ (v8 p s).2.1 ∧ (v8 p s).2.1 < (xs.map NV.q).length := by
    rcases hat with ⟨h1,_,_⟩ | ⟨_,h2,h3⟩
    · rw [h1] at h8; cases h8
    · exact ⟨h2,h3⟩
  obtain ⟨y,hy6,hq6⟩ := qs7 (qs6 hin)
  have hrr : r.q = y.q := by rw [hrq,hq6]; unfold outE; rw [if_neg (by rw [h8]; decide)]
  obtain ⟨qy,vny,vdy,_,rfl⟩ := hxv y (List.mem_of_getElem? hy6)
  rw [NV.of_q] at hrr
  obtain ⟨n1,n2⟩ := (hpt7.ok _ (List.mem_of_getElem? hy6)).le (hx8.le.trans hx9.le)
  rw [List.length_map] at hin
  have hxc : (xs.map NV.cells).length = xs.length := List.length_map _
  refine cR ?_;iterate 2 refine oV ?_
  refine vk trivial rfl underlying39 sizeOf48 rfl ((hpt7.le (hx8.le.trans hx9.le)).s) rfl (by omega) ?_;refine y7 trivial rfl isAgg48 sizeOf48 rfl rfl (NV.at_ (hpt7.le (hx8.le.trans hx9.le)) hy6) ?_;refine oS sizeOf48 ?_;refine oN (tC (cS ?_));refine jn (by kernel_rfl) (by kernel_rfl) (fun _ h => h.drawn) ?_;iterate 2 refine oV ?_
  refine vk trivial rfl underlying39 sizeOf48 rfl (q4.le (hx8.le.trans hx9.le)) rfl (by omega) ?_;refine y7 trivial rfl isAgg48 sizeOf48 rfl rfl (qlw (q4.le (hx8.le.trans hx9.le)) hrj) ?_;refine oA isAgg48 sizeOf48 ?_;refine oQ call14 rfl (qdf _ _ _ _ _ _ _ _ _ _ (k1.le hx9.le) (k2.le hx9.le) n1 n2) ?_;refine oV ?_;refine nT ?_;refine cC rfl (fun h9 => ?_) (fun h9 => ?_)
  ·
   have f9 := h9;try simp only [bl] at f9
   exfalso
   rw [hrr] at h9
   simp [NV.of] at h9
  have f9 := h9;try simp only [bl] at f9
  refine cK (qe (tC (cR ?_)));refine oV ?_
  (refine qf trivial rfl rfl rfl ?_ ?_; (omega))
  refine oV ?_;refine oN ?_;exact qj (j + 1,I9) (sC rfl (sC rfl (sC rfl (sC rfl (sC rfl (sC rfl (sC rfl sN))))))) (fun _ h => h.sort (by repeat constructor)) (by show p.outs.length - (j + 1) < p.outs.length - j; omega) ⟨by show j + 1 ≤ _; omega,hx8.trans hx9 (Nat.le_refl _)⟩
 have f7 := h7;try simp only [bl] at f7
 refine qq (qc (qc (qp rfl (tC (sR ?_)))));refine oV ?_;refine' oY (fun hb146 => ?_) ?_;rotate_left
 ·
  iterate 2 refine gV hb146 ?_
  refine oN ?_;exact qa rfl
 refine oV ?_;refine nE ?_;refine ret1 rfl rfl ?_;refine leaf (hx17.trans hx8 (Nat.le_refl _)) (List.nil_sublist _) (congrArg Value.bool ?_); rw [hdo]; rfl
end Go.Proofs.YtoincnplajnpnaaGreat
namespace Go.Proofs.YtoincnplajnpnaaGreat
open Go Go.Tw Go.ChangeShapes Go.WideShapes Go.ChangeAt
set_option maxRecDepth 100000
section
variable {base : Nat} {H : Type} {enc : TypeId × Value → H} {W : World} {v : Value} {cs : List Value} {d : DataW H} {ps : List MemPlace}
theorem qs8 : prog.cellsOf 62 = 3 := by kernel_rfl
theorem q2p (h : Tr enc prog W 62 cs) : ∃ x : TrC,cs = x.cells ∧ x.ok := by
 obtain ⟨h1,h2⟩ := qm0 underlying62 h
 obtain ⟨a,b,c,rfl⟩ := qyg (by rw [h1]; exact qs8)
 have k0 := h2 0 _ rfl
 have k1 := h2 1 _ rfl
 have k2 := h2 2 _ rfl
 change Tr enc prog W 5 (List.take (prog.cellsOf 5) [a,b,c]) at k0
 change Tr enc prog W 5 (List.take (prog.cellsOf 5) [b,c]) at k1
 change Tr enc prog W 5 (List.take (prog.cellsOf 5) [c]) at k2
 rw [qpi] at k0 k1 k2
 obtain ⟨z0,rfl,b0⟩ := qfk underlying5 k0
 obtain ⟨z1,rfl,b1⟩ := qfk underlying5 k1
 obtain ⟨z2,rfl,b2⟩ := qfk underlying5 k2
 exact ⟨⟨z0,z1,z2⟩,rfl,bounds_u8 b0,bounds_u8 b1,bounds_u8 b2⟩
theorem q2q (hval : Value.okWide prog W .any base 22 v) (h : DataW.Trod enc prog W 0 (fun _ => true) true 22 v d ps) : ∃ ts,TrV (World.hp W) v ts := by
 obtain ⟨xss,h1,h2⟩ := qm1 (sz := 3) underlying22 qs8 (by decide) (qmz underlying22 hval h)
 obtain ⟨ts,rfl,h3⟩ := qm2 (f := TrC.cells) (p := TrC.ok) fun c hc => q2p (h2 c hc)
 exact ⟨ts,h1,h3⟩
end
end Go.Proofs.YtoincnplajnpnaaGreat
