/-
  ValueDenotes, part 5: the texts Map, Map2, RefP, RefR, RefL, RefL2, RefL3, RefL4, RefL5, RefL6, Tree9, RefH, RefB, RefW, RefH2, Law11, RefW2, Scope, Scope2, Scope3, Ref13, Scope4, Ref13b, Law13, Law09, Ren, More, LowerP, Made14b, Point, Twice, DenP, DenP2, DenP3, DenP4, DenN, Show4, RefX, RefX2, DenW as one.
-/
import Derived.Test.YtoincnplajnpnaaGreatQValueDenotesD
import Derived.Laws.Entries
import Derived.MapKept
open Go.Proofs.Tryz
set_option linter.unusedVariables false
set_option linter.unusedSimpArgs false
set_option linter.unnecessarySimpa false
set_option maxHeartbeats 1000000
namespace Go.Tw
open Go Go.RowKit
def mEs : List (ByteArray × Value) → Nat → List MapEntry
 | [],_ => []
 | (s,v) :: l,i => ⟨.string s,v,i⟩ :: mEs l (i + 1)
def mapO (l : List (ByteArray × Value)) : Obj := .map (mEs l 0).toArray l.length
def jd (k : ByteArray) : List (ByteArray × Value) → Nat → Option (Nat × Value)
 | [],_ => none
 | (s,v) :: l,j => if k = s then some (j,v) else jd k l (j + 1)
def mPut (k : ByteArray) (v : Value) : List (ByteArray × Value) → List (ByteArray × Value)
 | [] => [(k,v)]
 | (s,u) :: l => if k = s then (k,v) :: l else (s,u) :: mPut k v l
theorem qq2 : ∀ (l m : List (ByteArray × Value)) (i : Nat), mEs (l ++ m) i = mEs l i ++ mEs m (i + l.length)
 | [],m,i => rfl
 | (s, v) :: l, m, i => by
   rw [List.cons_append,mEs,mEs,qq2 l m (i + 1),List.length_cons,List.cons_append]
   congr 3
   omega
theorem qk3 (a b : ByteArray) : (a == b) = decide (a = b) := by
 show (a.data == b.data) = _
 by_cases h : a = b
 · subst h; simp
 · rw [decide_eq_false h]
   have : a.data ≠ b.data := fun e => h (ByteArray.ext e)
   simpa using this
theorem qq3 (k : ByteArray) : ∀ (l : List (ByteArray × Value)) (i j : Nat), Instr.findNow .string (.string k) (mEs l i) j = some (jd k l j)
 | [],_,_ => rfl
 | (s, v) :: l, i, j => by
   rw [mEs,jd]
   unfold Instr.findNow
   by_cases h : k = s
   · subst h
     rw [if_pos rfl]
     have e : (k == k) = true := by rw [qk3]; exact decide_eq_true rfl
     simp only [Instr.sameNow,e]
   · rw [if_neg h]
     have e : (k == s) = false := by rw [qk3]; exact decide_eq_false h
     simp only [Instr.sameNow,e]
     exact qq3 k l (i + 1) (j + 1)
theorem qk4 {k : ByteArray} {v : Value} : ∀ {l : List (ByteArray × Value)} {j : Nat}, jd k l j = none → mPut k v l = l ++ [(k, v)]
 | [],_,_ => rfl
 | (s, u) :: l, j, h => by
   rw [jd] at h
   split at h
   · cases h
   · rename_i hn
     rw [mPut,if_neg hn,qk4 h]
     rfl
theorem qq4 {k : ByteArray} {v x : Value} {i0 : Nat} : ∀ {l : List (ByteArray × Value)} {j i : Nat}, jd k l j = some (i, x) → j ≤ i ∧ i - j < l.length ∧ (mEs l i0)[i - j]? = some ⟨.string k, x, i0 + (i - j)⟩ ∧ (mEs l i0).modify (i - j) (fun e => { e with key := .string k, val := v }) = mEs (mPut k v l) i0 ∧ (mPut k v l).length = l.length
 | [],_,_,h => by cases h
 | (s, u) :: l, j, i, h => by
   rw [jd] at h
   split at h
   · rename_i hs
     cases h
     subst hs
     rw [Nat.sub_self,mPut,if_pos rfl]
     exact ⟨Nat.le_refl _,by simp,rfl,rfl,rfl⟩
   · rename_i hn
     obtain ⟨h1,h2,h3,h4,h5⟩ := qq4 (v := v) (i0 := i0 + 1) h
     have e : i - j = i - (j + 1) + 1 := by omega
     rw [mPut,if_neg hn,e]
     refine ⟨by omega,by rw [List.length_cons]; omega,?_,?_,by rw [List.length_cons,List.length_cons,h5]⟩
     · rw [mEs, List.getElem?_cons_succ, h3]
       congr 2
       omega
     · rw [mEs,mEs,List.modify_succ_cons,h4]
section
variable {P : Program} {Q : Exit → Act → World → Prop} {n : Nat} {D : List Deferred} {E : Env} {S S' : World → Prop} {ops : Array Oper} {rest : List Oper} {d : Nat} {op : Op} {ty : TypeId} {pos : String} {aft : Array Edge} {g : Option (Nat × Bool)} {v : Value} {w0 : World} {X : List Nat} {I : Hp} {B : List Item}
theorem qk5 {kt : TypeId} (hk : P.underlying kt = some .string) (w : World) (k : ByteArray) (l : List (ByteArray × Value)) : (Instr.findKey kt (.string k) (mEs l 0)).run P w = .ok (jd k l 0) w := by
 simp [Instr.findKey,run_underlying hk,qq3,Result.andThen]
theorem qk6 {kt : TypeId} (hk : P.underlying kt = some .string) (w : World) (b : Bool) (k : ByteArray) : (Instr.checkKey b 10000 kt (.string k)).run P w = .ok () w := by
 unfold Instr.checkKey
 simp [run_underlying hk,Result.andThen]
theorem qq5 {t : TypeId} (hg : qi ops E g) (hd : Nat.blt d n = true)
   (k : ∀ b,TL false P ops Q rest n D ((d,.map (some b)) :: E) (St w0 X I (.box b (mapO []) :: B))) : TL false P ops Q (⟨some d,.makeMap t none,ty,pos,aft,g⟩ :: rest) n D E (St w0 X I B) :=
 qas (ι := Nat) (V := fun b => .map (some b)) (SX := fun b => St w0 X I (.box b (mapO []) :: B)) (F := fun _ => True) hg hd
   (fun a w ha hw d pos aft g => ⟨w.alloc (mapO []), w.heap.size, by
     simp [execOp,Instr.makeMap,newObj,Sem.run,Result.andThen]; rfl,
     hw.new (But.alloc w _) (heap_alloc_new w _) (fun b hb => by cases hb; exact Nat.le_refl _),trivial⟩) (fun b _ => k b)
theorem q0l {qm : Bool} {t kt et : TypeId} {m x : Operand} {b : Nat} {key : ByteArray} {l : List (ByteArray × Value)} {z : Value} (hg : qi ops E g) (hd : Nat.blt d n = true) (hu : P.underlying t = some (.map kt et)) (hk : P.underlying kt = some .string) (hz : ∀ w, (zeroValue et).run P w = .ok z w) (hm : ev E m = some (.map (some b))) (hx : ev E x = some (.string key)) (hB : Item.box b (mapO l) ∈ B)
   (k : TL qm P ops Q rest n D ((d,.tuple #[((jd key l 0).map Prod.snd).getD z,.bool (jd key l 0).isSome]) :: E) (St w0 X I B)) : TL qm P ops Q (⟨some d,.lookup t m x true,ty,pos,aft,g⟩ :: rest) n D E (St w0 X I B) :=
 o_rd hg hd (v := .tuple #[((jd key l 0).map Prod.snd).getD z, .bool (jd key l 0).isSome]) (fun a w ha hw d pos aft g => ⟨w, by
   have hbox : w.heap[b]? = some (.map (mEs l 0).toArray l.length) := hw.own _ hB
   have hf := qk5 hk w key l
   have hc := qk6 hk w (mEs l 0).isEmpty key
   cases hfd : jd key l 0 with
   | none =>
     rw [hfd] at hf
     simp [execOp,ha.ev hm,ha.ev hx,Instr.lookup,run_underlying hu,MapKept.run_getObj_map hbox,hc,hf,hz,Result.andThen]
   | some y =>
     obtain ⟨i,u⟩ := y
     rw [hfd] at hf
     simp [execOp,ha.ev hm,ha.ev hx,Instr.lookup,run_underlying hu,MapKept.run_getObj_map hbox,hc,hf,hz,Result.andThen],rfl⟩) k
theorem q0m {qm : Bool} {t kt et : TypeId} {m x : Operand} {b : Nat} {key : ByteArray} {l : List (ByteArray × Value)} {z : Value} (hg : qi ops E g) (hd : Nat.blt d n = true) (hu : P.underlying t = some (.map kt et)) (hk : P.underlying kt = some .string) (hz : ∀ w, (zeroValue et).run P w = .ok z w) (hm : ev E m = some (.map (some b))) (hx : ev E x = some (.string key)) (hB : Item.box b (mapO l) ∈ B)
   (k : TL qm P ops Q rest n D ((d,((jd key l 0).map Prod.snd).getD z) :: E) (St w0 X I B)) : TL qm P ops Q (⟨some d,.lookup t m x false,ty,pos,aft,g⟩ :: rest) n D E (St w0 X I B) :=
 o_rd hg hd (v := ((jd key l 0).map Prod.snd).getD z) (fun a w ha hw d pos aft g => ⟨w, by
   have hbox : w.heap[b]? = some (.map (mEs l 0).toArray l.length) := hw.own _ hB
   have hf := qk5 hk w key l
   have hc := qk6 hk w (mEs l 0).isEmpty key
   cases hfd : jd key l 0 with
   | none =>
     rw [hfd] at hf
     simp [execOp,ha.ev hm,ha.ev hx,Instr.lookup,run_underlying hu,MapKept.run_getObj_map hbox,hc,hf,hz,Result.andThen]
   | some y =>
     obtain ⟨i,u⟩ := y
     rw [hfd] at hf
     simp [execOp,ha.ev hm,ha.ev hx,Instr.lookup,run_underlying hu,MapKept.run_getObj_map hbox,hc,hf,hz,Result.andThen],rfl⟩) k
theorem map_set {w : World} {b : Nat} {o o' : Obj} (hb : w.heap[b]? = some o) : But (some b) w { w with heap := w.heap.setIfInBounds b o' } ∧ (w.heap.setIfInBounds b o')[b]? = some o' := by
 refine ⟨⟨rfl,rfl,rfl,by simp,fun k hk hne => ?_⟩,?_⟩
 · have : b ≠ k := fun e => hne (by rw [e])
   simp [Array.getElem?_setIfInBounds,this]
 · have hlt := (Array.getElem?_eq_some_iff.1 hb).1
   simp [hlt]
theorem q0n {t kt et : TypeId} {w : World} {b : Nat} {key : ByteArray} {val : Value} {l : List (ByteArray × Value)} (hu : P.underlying t = some (.map kt et)) (hk : P.underlying kt = some .string) (hbox : w.heap[b]? = some (mapO l)) :
   (Instr.mapUpdate t (.map (some b)) (.string key) val).run P w = .ok () { w with heap := w.heap.setIfInBounds b (mapO (mPut key val l)) } := by
 have hbox' : w.heap[b]? = some (.map (mEs l 0).toArray l.length) := hbox
 have hf := qk5 hk w key l
 have hc := qk6 hk w false key
 cases hfd : jd key l 0 with
 | none =>
   rw [hfd] at hf
   have e : mapO (mPut key val l) = .map ((mEs l 0).toArray.push ⟨.string key,val,l.length⟩) (l.length + 1) := by
     rw [qk4 hfd]
     unfold mapO
     rw [qq2,List.length_append]
     simp [mEs]
   rw [e]
   simp [Instr.mapUpdate,run_underlying hu,MapKept.run_getObj_map hbox',hc,hf,setObj,Sem.run,Result.andThen,hbox']
 | some y =>
   obtain ⟨i,u⟩ := y
   obtain ⟨_,h2,h3,h4,h5⟩ := qq4 (v := val) (i0 := 0) hfd
   rw [Nat.sub_zero] at h2 h3 h4
   rw [hfd] at hf
   have e : mapO (mPut key val l) = .map ((mEs l 0).toArray.modify i fun e => { e with key := .string key,val := val }) l.length := by
     unfold mapO
     rw [h5,← h4]
     congr 1
     apply Array.ext'
     simp
   rw [e]
   have e2 : (key == key) = true := by rw [qk3]; exact decide_eq_true rfl
   simp [Instr.mapUpdate,run_underlying hu,MapKept.run_getObj_map hbox',hc,hf,setObj,Sem.run,Result.andThen,hbox',h3,Instr.keyThatStays,Instr.sameBits,e2]
theorem qq6 {t kt et : TypeId} {m x y : Operand} {b : Nat} {key : ByteArray} {l : List (ByteArray × Value)} {B' : List Item} (hg : qi ops E g) (hu : P.underlying t = some (.map kt et)) (hk : P.underlying kt = some .string) (hm : ev E m = some (.map (some b))) (hx : ev E x = some (.string key)) (hy : ev E y = some v) (hB : Put B (.box b (mapO l)) B' (.box b (mapO (mPut key v l))))
   (k : TL false P ops Q rest n D E (St w0 X I B')) : TL false P ops Q (⟨none,.mapUpdate t m x y,ty,pos,aft,g⟩ :: rest) n D E (St w0 X I B) :=
 qgm hg (S' := St w0 X I B') (fun a w ha hS d pos aft g => by
   have hbox : w.heap[b]? = some (mapO l) := hS.own _ hB.mem
   obtain ⟨h1,h2⟩ := map_set (o' := mapO (mPut key v l)) hbox
   exact ⟨_,by simp only [execOp,ha.ev hm,ha.ev hx,ha.ev hy,q0n hu hk hbox,Sem.run_bind,Sem.run_pure,Result.andThen_ok],hS.turn hB h1 h2 (fun _ h => .inl h)⟩) k
end
end Go.Tw
namespace Go.Tw
open Go Go.RowKit
structure PL where
 l : Bool
 i : Int
abbrev KN := List (ByteArray × PL)
def plV (p : PL) : Value := .agg #[.bool p.l,.int .i64 p.i]
def knO (K : KN) : Obj := mapO (K.map fun a => (a.1,plV a.2))
def getK (s : ByteArray) : KN → Option PL
 | [] => none
 | (t,p) :: K => if s = t then some p else getK s K
theorem qk7 (s : ByteArray) : ∀ (K : KN) (j : Nat), (jd s (K.map fun a => (a.1, plV a.2)) j).map Prod.snd = (getK s K).map plV
 | [],_ => rfl
 | (t, p) :: K, j => by
   rw [List.map_cons,jd,getK]
   split
   · rfl
   · exact qk7 s K (j + 1)
theorem qq7 (s : ByteArray) (K : KN) : (jd s (K.map fun a => (a.1,plV a.2)) 0).isSome = (getK s K).isSome := by
 have h := congrArg Option.isSome (qk7 s K 0)
 rw [Option.isSome_map,Option.isSome_map] at h
 exact h
theorem q0o (s : ByteArray) (K : KN) : ((jd s (K.map fun a => (a.1,plV a.2)) 0).map Prod.snd).getD (.agg #[.bool false,.int .i64 0]) = .agg #[.bool ((getK s K).getD ⟨false,0⟩).l,.int .i64 ((getK s K).getD ⟨false,0⟩).i] := by
 rw [qk7]
 cases getK s K <;> rfl
theorem q0p {s : ByteArray} {K : KN} {p : PL} (h : (getK s K).isSome = false) : mapO (mPut s (plV p) (K.map fun a => (a.1,plV a.2))) = knO (K ++ [(s,p)]) := by
 have hn : jd s (K.map fun a => (a.1,plV a.2)) 0 = none := by
   have := qq7 s K
   rw [h] at this
   exact Option.not_isSome_iff_eq_none.1 (by rw [this]; decide)
 rw [qk4 hn]
 unfold knO
 rw [List.map_append]
 rfl
def getN (s : ByteArray) : List (ByteArray × Nat) → Nat
 | [] => 0
 | (t,n) :: U => if s = t then n else getN s U
def incN (s : ByteArray) : List (ByteArray × Nat) → List (ByteArray × Nat)
 | [] => [(s,1)]
 | (t,n) :: U => if s = t then (s,n + 1) :: U else (t,n) :: incN s U
def usU (L : List ByteArray) : List (ByteArray × Nat) := L.foldl (fun U s => incN s U) []
def usO (L : List ByteArray) : Obj := mapO ((usU L).map fun a => (a.1,.int .i64 (a.2 : Nat)))
theorem qq8 (L : List ByteArray) (s : ByteArray) : usU (L ++ [s]) = incN s (usU L) := by unfold usU; rw [List.foldl_append]; rfl
theorem qq9 (x s : ByteArray) : ∀ (U : List (ByteArray × Nat)), getN x (incN s U) = getN x U + if x = s then 1 else 0
 | [] => by
   show (if x = s then 1 else 0) = 0 + _
   rw [Nat.zero_add]
 | (t, n) :: U => by
   have ih := qq9 x s U
   rw [incN]
   split
   · rename_i h
     subst h
     rw [getN,getN]
     by_cases hx : x = s
     · rw [if_pos hx,if_pos hx,if_pos hx]
     · rw [if_neg hx,if_neg hx,if_neg hx]; rfl
   · rename_i h
     rw [getN,getN]
     by_cases hx : x = t
     · rw [if_pos hx,if_pos hx,if_neg (fun e => h (by rw [← e,hx]))]; rfl
     · rw [if_neg hx,if_neg hx,ih]
def cnt (s : ByteArray) : List ByteArray → Nat
 | [] => 0
 | x :: L => (if s = x then 1 else 0) + cnt s L
theorem qra (s x : ByteArray) : ∀ (L : List ByteArray), cnt s (L ++ [x]) = cnt s L + if s = x then 1 else 0
 | [] => by simp [cnt]
 | y :: L => by rw [List.cons_append,cnt,cnt,qra s x L,Nat.add_assoc]
theorem qrb (s : ByteArray) : ∀ (L : List ByteArray), cnt s L ≤ L.length
 | [] => Nat.le_refl _
 | y :: L => by
   have := qrb s L
   rw [cnt,List.length_cons]
   split <;> omega
theorem qrc (x : ByteArray) (L : List ByteArray) : getN x (usU L) = cnt x L := by
 have key : ∀ (n : Nat) (L : List ByteArray),L.length = n → getN x (usU L) = cnt x L := by
   intro n
   induction n with
   | zero =>
     intro L h
     rw [List.length_eq_zero_iff.1 h]; rfl
   | succ n ih =>
     intro L h
     have hne : L ≠ [] := fun e => by rw [e] at h; cases h
     rw [← List.dropLast_concat_getLast hne,qq8,qq9,ih L.dropLast (by rw [List.length_dropLast,h]; rfl),qra]
 exact key L.length L rfl
theorem qrd (s : ByteArray) : ∀ (U : List (ByteArray × Nat)) (j : Nat), ((jd s (U.map fun a => (a.1, Value.int .i64 (a.2 : Nat))) j).map Prod.snd).getD (.int .i64 0) = .int .i64 (getN s U : Nat)
 | [],_ => rfl
 | (t, p) :: K, j => by
   rw [List.map_cons,jd,getN]
   split
   · rfl
   · exact qrd s K (j + 1)
theorem qre (s : ByteArray) : ∀ (U : List (ByteArray × Nat)), mPut s (.int .i64 ((getN s U : Nat) + 1)) (U.map fun a => (a.1, Value.int .i64 (a.2 : Nat))) = (incN s U).map fun a => (a.1, Value.int .i64 (a.2 : Nat))
 | [] => rfl
 | (t, n) :: U => by
   have ih := qre s U
   rw [List.map_cons,mPut,incN,getN]
   by_cases h : s = t
   · rw [if_pos h,if_pos h,if_pos h]; rfl
   · rw [if_neg h,if_neg h,if_neg h,ih]; rfl
section
variable {P : Program} {Q : Exit → Act → World → Prop} {n : Nat} {D : List Deferred} {E : Env} {S S' : World → Prop} {ops : Array Oper} {rest : List Oper} {d : Nat} {op : Op} {ty : TypeId} {pos : String} {aft : Array Edge} {g : Option (Nat × Bool)} {v : Value} {w0 : World} {X : List Nat} {I : Hp} {B : List Item}
theorem qk8 {qm : Bool} {t kt et : TypeId} {m x : Operand} {b : Nat} {key : ByteArray} {K : KN} (hg : qi ops E g) (hd : Nat.blt d n = true) (hu : P.underlying t = some (.map kt et)) (hk : P.underlying kt = some .string) (hz : ∀ w, (zeroValue et).run P w = .ok (.agg #[.bool false, .int .i64 0]) w) (hm : ev E m = some (.map (some b))) (hx : ev E x = some (.string key)) (hB : Item.box b (knO K) ∈ B)
   (k : TL qm P ops Q rest n D ((d,.tuple #[.agg #[.bool ((getK key K).getD ⟨false,0⟩).l,.int .i64 ((getK key K).getD ⟨false,0⟩).i],.bool (getK key K).isSome]) :: E) (St w0 X I B)) : TL qm P ops Q (⟨some d,.lookup t m x true,ty,pos,aft,g⟩ :: rest) n D E (St w0 X I B) :=
 q0l hg hd hu hk hz hm hx hB (by rw [q0o,qq7]; exact k)
theorem q0q {t kt et : TypeId} {m x y : Operand} {b : Nat} {key : ByteArray} {K : KN} {p : PL} {B' : List Item} (hn : (getK key K).isSome = false) (hg : qi ops E g) (hu : P.underlying t = some (.map kt et)) (hk : P.underlying kt = some .string) (hm : ev E m = some (.map (some b))) (hx : ev E x = some (.string key)) (hy : ev E y = some (plV p)) (hB : Put B (.box b (knO K)) B' (.box b (knO (K ++ [(key, p)]))))
   (k : TL false P ops Q rest n D E (St w0 X I B')) : TL false P ops Q (⟨none,.mapUpdate t m x y,ty,pos,aft,g⟩ :: rest) n D E (St w0 X I B) :=
 qq6 (l := K.map fun a => (a.1,plV a.2)) hg hu hk hm hx hy (by rw [q0p hn]; exact hB) k
theorem q0r {qm : Bool} {t kt et : TypeId} {m x : Operand} {b : Nat} {key : ByteArray} {L : List ByteArray} (hg : qi ops E g) (hd : Nat.blt d n = true) (hu : P.underlying t = some (.map kt et)) (hk : P.underlying kt = some .string) (hz : ∀ w, (zeroValue et).run P w = .ok (.int .i64 0) w) (hm : ev E m = some (.map (some b))) (hx : ev E x = some (.string key)) (hB : Item.box b (usO L) ∈ B)
   (k : TL qm P ops Q rest n D ((d,.int .i64 (cnt key L : Nat)) :: E) (St w0 X I B)) : TL qm P ops Q (⟨some d,.lookup t m x false,ty,pos,aft,g⟩ :: rest) n D E (St w0 X I B) :=
 q0m hg hd hu hk hz hm hx hB (by rw [qrd,qrc]; exact k)
theorem q0s {t kt et : TypeId} {m x y : Operand} {b : Nat} {key : ByteArray} {L : List ByteArray} {B' : List Item} (hg : qi ops E g) (hu : P.underlying t = some (.map kt et)) (hk : P.underlying kt = some .string) (hm : ev E m = some (.map (some b))) (hx : ev E x = some (.string key)) (hy : ev E y = some (.int .i64 ((cnt key L : Nat) + 1))) (hB : Put B (.box b (usO L)) B' (.box b (usO (L ++ [key]))))
   (k : TL false P ops Q rest n D E (St w0 X I B')) : TL false P ops Q (⟨none,.mapUpdate t m x y,ty,pos,aft,g⟩ :: rest) n D E (St w0 X I B) :=
 qq6 (l := (usU L).map fun a => (a.1, Value.int .i64 (a.2 : Nat))) hg hu hk hm hx hy (by
   have e : mapO (mPut key (.int .i64 ((cnt key L : Nat) + 1)) ((usU L).map fun a => (a.1,Value.int .i64 (a.2 : Nat)))) = usO (L ++ [key]) := by
     unfold usO
     rw [qq8,← qre,qrc]
   rw [e]
   exact hB) k
end
end Go.Tw
namespace Go.Proofs.YtoincnplajnpnaaGreat
open Go Go.Tw
def isR (bad : Bool) (L : List Tok) (i : Nat) (k : Int) (s : ByteArray) : Bool := !bad && hdT (L.drop i) k s
theorem add_none {L : List Tok} {j : Nat} (h : (isR false L j 2 qkb || isR false L j 2 zh) = false) : hdK addK (L.drop j) = none := by
 unfold isR at h
 simp only [Bool.not_false,Bool.true_and,Bool.or_eq_false_iff] at h
 cases hr : L.drop j with
 | nil => rfl
 | cons x r =>
   rw [hr] at h
   simp only [hdT] at h
   show addK x = none
   unfold addK
   rw [h.1,h.2]; rfl
def LowN (l : List NodeC) : Prop := ∀ (i : Nat) (c : NodeC),l[i]? = some c → 1 < c.kind → 0 ≤ c.a ∧ c.a < i ∧ (c.kind ≤ 5 → 0 ≤ c.b ∧ c.b < i)
theorem q0t : ∀ (x : Ex) (b j : Nat) (c : NodeC),x.ok → (x.nd b)[j]? = some c → 1 < c.kind → (b : Int) ≤ c.a ∧ c.a < (b + j : Nat) ∧ (c.kind ≤ 5 → (b : Int) ≤ c.b ∧ c.b < (b + j : Nat)) := by
 intro x
 have last : ∀ {u : List NodeC} {c0 c : NodeC} {j : Nat},(u ++ [c0])[j]? = some c → ¬ j < u.length → j = u.length ∧ c = c0 := by
   intro u c0 c j h hj
   rw [List.getElem?_append_right (by omega)] at h
   have := (List.getElem?_eq_some_iff.1 h)
   obtain ⟨h1,h2⟩ := this
   simp at h1 h2
   exact ⟨by omega,h2.symm⟩
 induction x with
 | ref t =>
   intro b j c _ h hk
   have : c = refN t := by
     obtain ⟨h1,h2⟩ := List.getElem?_eq_some_iff.1 h
     simp [Ex.nd] at h2; exact h2.symm
   subst this
   exact absurd hk (by simp [refN])
 | num q =>
   intro b j c _ h hk
   have : c = numN q := by
     obtain ⟨h1,h2⟩ := List.getElem?_eq_some_iff.1 h
     simp [Ex.nd] at h2; exact h2.symm
   subst this
   exact absurd hk (by simp [numN])
 | neg x ih =>
   intro b j c hok h hk
   have hp := x.n_pos
   have hl := x.nd_len b
   by_cases hj : j < (x.nd b).length
   · simp only [Ex.nd] at h
     rw [List.getElem?_append_left hj] at h
     exact ih b j c hok h hk
   · obtain ⟨e1, e2⟩ := last h hj
     subst e2
     refine ⟨?_,?_,?_⟩
     · show (b : Int) ≤ (b : Int) + x.n - 1; omega
     · show (b : Int) + x.n - 1 < _; omega
     · intro h5; exact absurd h5 (by show ¬ (6 : Int) ≤ 5; decide)
 | pow x e ih =>
   intro b j c hok h hk
   have hp := x.n_pos
   have hl := x.nd_len b
   by_cases hj : j < (x.nd b).length
   · simp only [Ex.nd] at h
     rw [List.getElem?_append_left hj] at h
     exact ih b j c hok.1 h hk
   · obtain ⟨e1, e2⟩ := last h hj
     subst e2
     refine ⟨?_,?_,?_⟩
     · show (b : Int) ≤ (b : Int) + x.n - 1; omega
     · show (b : Int) + x.n - 1 < _; omega
     · intro h5; exact absurd h5 (by show ¬ (7 : Int) ≤ 5; decide)
 | bin k x y ih1 ih2 =>
   intro b j c hok h hk
   have hp := x.n_pos
   have hp2 := y.n_pos
   have hl := x.nd_len b
   have hl2 := y.nd_len (b + x.n)
   by_cases hj : j < (x.nd b ++ y.nd (b + x.n)).length
   · simp only [Ex.nd] at h
     rw [List.getElem?_append_left hj] at h
     by_cases hx : j < (x.nd b).length
     · rw [List.getElem?_append_left hx] at h
       exact ih1 b j c hok.2.2.1 h hk
     · rw [List.getElem?_append_right (by omega)] at h
       have := ih2 (b + x.n) _ c hok.2.2.2 h hk
       refine ⟨by omega,by omega,fun h5 => ?_⟩
       have := this.2.2 h5
       omega
   · obtain ⟨e1, e2⟩ := last h hj
     rw [List.length_append] at e1
     subst e2
     refine ⟨?_,?_,fun _ => ⟨?_,?_⟩⟩
     · show (b : Int) ≤ (b : Int) + x.n - 1; omega
     · show (b : Int) + x.n - 1 < _; omega
     · show (b : Int) ≤ (b : Int) + x.n + y.n - 1; omega
     · show (b : Int) + x.n + y.n - 1 < _; omega
theorem qrf : ∀ (l : List (ByteArray × Ex)) (b j : Nat) (c : NodeC), qaq l → (laid l b).2[j]? = some c → 1 < c.kind → (b : Int) ≤ c.a ∧ c.a < (b + j : Nat) ∧ (c.kind ≤ 5 → (b : Int) ≤ c.b ∧ c.b < (b + j : Nat))
 | [],_,_,_,_,h,_ => by cases h
 | (s, x) :: l, b, j, c, hok, h, hk => by
   simp only [laid] at h
   have hl := x.nd_len b
   by_cases hx : j < (x.nd b).length
   · rw [List.getElem?_append_left hx] at h
     exact q0t x b j c (hok (s,x) (by simp)).2 h hk
   · rw [List.getElem?_append_right (by omega)] at h
     have := qrf l (b + x.n) _ c (fun a ha => hok a (by simp [ha])) h hk
     refine ⟨by omega,by omega,fun h5 => ?_⟩
     have := this.2.2 h5
     omega
theorem qrg {p : qx} {l : List (ByteArray × Ex)} (h : Shaped p l) : LowN p.all := fun i c hc hk => by
 rw [h.all] at hc
 have := qrf l 0 i c h.ok hc hk
 refine ⟨by omega,by omega,fun h5 => ?_⟩
 have := this.2.2 h5
 omega
theorem qrh {l : List NodeC} (h : LowN l) : ∀ (i f g : Nat),i < f → i < g → yc l f i = yc l g i := by
 intro i
 induction i using Nat.strongRecOn with
 | ind i ih =>
   intro f g hf hg
   obtain ⟨f,rfl⟩ : ∃ k,f = k + 1 := ⟨f - 1,by omega⟩
   obtain ⟨g,rfl⟩ : ∃ k,g = k + 1 := ⟨g - 1,by omega⟩
   unfold yc
   rw [Int.toNat_natCast]
   cases hc : l[i]? with
   | none => rfl
   | some c =>
     dsimp only
     by_cases h1 : c.kind ≤ 1
     · rw [if_pos h1,if_pos h1]
     · obtain ⟨a1, a2, a3⟩ := h i c hc (by omega)
       have ea : c.a = (c.a.toNat : Int) := by omega
       rw [if_neg h1,if_neg h1]
       by_cases h5 : c.kind ≤ 5
       · obtain ⟨b1, b2⟩ := a3 h5
         have eb : c.b = (c.b.toNat : Int) := by omega
         rw [if_pos h5,if_pos h5,ea,eb,ih c.a.toNat (by omega) f g (by omega) (by omega),ih c.b.toNat (by omega) f g (by omega) (by omega)]
       · rw [if_neg h5,if_neg h5,ea,ih c.a.toNat (by omega) f g (by omega) (by omega)]
theorem qri {l : List NodeC} (h : LowN l) : ∀ (i f : Nat),i < f → yc l f i ≤ i + 1 := by
 intro i
 induction i using Nat.strongRecOn with
 | ind i ih =>
   intro f hf
   obtain ⟨f,rfl⟩ : ∃ k,f = k + 1 := ⟨f - 1,by omega⟩
   unfold yc
   rw [Int.toNat_natCast]
   cases hc : l[i]? with
   | none => exact Nat.zero_le _
   | some c =>
     dsimp only
     by_cases h1 : c.kind ≤ 1
     · rw [if_pos h1]; omega
     · obtain ⟨a1, a2, a3⟩ := h i c hc (by omega)
       have ea : c.a = (c.a.toNat : Int) := by omega
       have := ih c.a.toNat (by omega) f (by omega)
       rw [if_neg h1]
       by_cases h5 : c.kind ≤ 5
       · obtain ⟨b1, b2⟩ := a3 h5
         have eb : c.b = (c.b.toNat : Int) := by omega
         have := ih c.b.toNat (by omega) f (by omega)
         rw [if_pos h5,ea,eb]
         omega
       · rw [if_neg h5,ea]; omega
def jg (l : List NodeC) : List Nat := (List.range l.length).map fun (i : Nat) => yc l l.length (i : Int)
theorem qk9 (l : List NodeC) : (jg l).length = l.length := by simp [jg]
theorem qrj (all : List NodeC) : ∀ (l : List (ByteArray × Ex)) (b f : Nat), qaq l → (∀ j c, (laid l b).2[j]? = some c → all[b + j]? = some c) → b + (laid l b).2.length ≤ f → ∀ j, j < (laid l b).2.length → some (yc all f ((b + j : Nat) : Int)) = (j0 l)[j]?
 | [],b,f,_,_,_,j,hj => by cases hj
 | (s, x) :: l, b, f, hok, h, hf, j, hj => by
   have hx := (hok (s,x) (by simp)).2
   have hl := x.nd_len b
   simp only [laid] at h hf hj
   rw [List.length_append,hl] at hf hj
   have hA : At all b x := At.left h (u := x.nd b) rfl
   have hR := At.right h (u := x.nd b) rfl
   rw [hl] at hR
   have e : j0 ((s,x) :: l) = x.hs ++ j0 l := by simp [j0]
   rw [e]
   by_cases hjx : j < x.n
   · rw [List.getElem?_append_left (by rw [x.hs_len]; exact hjx)]
     exact qzb x hx hA (by omega) j hjx
   · rw [List.getElem?_append_right (by rw [x.hs_len]; omega), x.hs_len]
     have := qrj all l (b + x.n) f (fun a ha => hok a (by simp [ha])) hR (by omega) (j - x.n) (by omega)
     rw [← this,show b + x.n + (j - x.n) = b + j by omega]
theorem qrk {p : qx} {l : List (ByteArray × Ex)} (h : Shaped p l) : jg p.all = j0 l := by
 have hlen : p.all.length = (j0 l).length := by rw [h.all,qhy]
 apply List.ext_getElem?
 intro j
 by_cases hj : j < p.all.length
 · have := qrj p.all l 0 p.all.length h.ok (fun j c hc => by rw [h.all, Nat.zero_add]; exact hc) (by rw [h.all]; omega) j (by rw [← h.all]; exact hj)
   rw [Nat.zero_add] at this
   rw [← this]
   simp [jg,hj]
 · rw [List.getElem?_eq_none (by rw [qk9]; omega),List.getElem?_eq_none (by omega)]
def qdw (p : qx) : Bool := decide (400 < p.all.length) || decide (40 < p.ins.length) || decide (40 < p.lets.length) || decide (40 < p.outs.length) || (jg p.all).any fun h => decide (60 < h)
theorem qrl {p : qx} {l : List (ByteArray × Ex)} (h : Shaped p l) (hi : qeu p.ins ∧ 1 ≤ p.ins.length) (ho : qeu p.outs ∧ 1 ≤ p.outs.length) : (tZ p).isSome = !qdw p := by
 have hlets : p.lets.length = l.length := by rw [h.lets,qb4]
 rw [Bool.eq_iff_iff,qex,Bool.not_eq_true']
 unfold qdw
 simp only [Bool.or_eq_false_iff,decide_eq_false_iff_not,List.any_eq_false,decide_eq_true_eq]
 constructor
 · rintro ⟨l', hr⟩
   have hl' : p.lets.length = l'.length := by rw [hr.lets,qb4]
   refine ⟨⟨⟨⟨by have := hr.few.2; omega,by have := hr.ins.2.2; omega⟩,by have := hr.few.1; omega⟩,by have := hr.outs.2.2; omega⟩,fun k hk => ?_⟩
   rw [qrk hr.toShaped] at hk
   have := qhx.2 hr.low k hk
   omega
 · rintro ⟨⟨⟨⟨c1, c2⟩, c3⟩, c4⟩, c5⟩
   refine ⟨l,⟨h,⟨hi.1,hi.2,by omega⟩,⟨ho.1,ho.2,by omega⟩,⟨by omega,by omega⟩,?_⟩⟩;refine qhx.1 fun k hk => ?_
   rw [← qrk h] at hk
   have := c5 k hk
   omega
theorem q0u (va : Value) (ns : List qk) {I : Hp} (hsa : Slc I 8 va (nds ns)) (hok : ∀ o ∈ ns,o.ok I) (hlow : LowN (ns.map qk.c)) (hn : ns.length ≤ 100000) : ∀ i : Nat,i < ns.length → Fun prog 117 [va,.int .i64 (i : Nat)] I [] (fun v _ _ => v = .int .i64 ((yc (ns.map qk.c) (ns.length) (i : Int) : Nat) : Int)) := by
 intro i
 have hln := z4 ns
 induction i using Nat.strongRecOn with
 | ind i ih =>
   intro hi
   obtain ⟨o,ho⟩ : ∃ o,ns[i]? = some o := ⟨ns[i]'hi,List.getElem?_eq_getElem hi⟩
   have hoc : (ns.map qk.c)[i]? = some o.c := by rw [List.getElem?_map,ho]; rfl
   have hom := List.mem_of_getElem? ho
   have hw1 : Ws I o.vn o.c.n := (hok o hom).1
   have hw2 : Ws I o.vd o.c.d := (hok o hom).2
   have hlo := hlow i o.c hoc
   obtain ⟨f,hf⟩ : ∃ f,ns.length = f + 1 := ⟨ns.length - 1,by omega⟩
   have htz : yc (ns.map qk.c) ns.length (i : Int) = if o.c.kind ≤ 1 then 1 else if o.c.kind ≤ 5 then 1 + max (yc (ns.map qk.c) f o.c.a) (yc (ns.map qk.c) f o.c.b) else 1 + yc (ns.map qk.c) f o.c.a := by
     rw [hf]
     conv => lhs; unfold yc
     rw [Int.toNat_natCast,hoc]
   have hta : 1 < o.c.kind → yc (ns.map qk.c) f o.c.a = yc (ns.map qk.c) ns.length o.c.a := fun hk => by
     obtain ⟨a1,a2,_⟩ := hlo hk
     have ea : o.c.a = (o.c.a.toNat : Int) := by omega
     rw [ea]
     exact qrh hlow _ _ _ (by omega) (by omega)
   have htb : 1 < o.c.kind → o.c.kind ≤ 5 → yc (ns.map qk.c) f o.c.b = yc (ns.map qk.c) ns.length o.c.b := fun hk h5 => by
     obtain ⟨a1,a2,a3⟩ := hlo hk
     obtain ⟨b1,b2⟩ := a3 h5
     have eb : o.c.b = (o.c.b.toNat : Int) := by omega
     rw [eb]
     exact qrh hlow _ _ _ (by omega) (by omega)
   have hca : 1 < o.c.kind → (Fun prog 117 [va, .int .i64 o.c.a] I [] (fun v _ _ => v = .int .i64 ((yc (ns.map qk.c) (ns.length) o.c.a : Nat) : Int))) ∧ yc (ns.map qk.c) (ns.length) o.c.a ≤ 100000 := fun hk => by
     obtain ⟨a1,a2,_⟩ := hlo hk
     have ea : o.c.a = (o.c.a.toNat : Int) := by omega
     rw [ea]
     exact ⟨ih _ (by omega) (by omega),by have := qri hlow o.c.a.toNat ns.length (by omega); omega⟩
   have hcb : 1 < o.c.kind → o.c.kind ≤ 5 → (Fun prog 117 [va, .int .i64 o.c.b] I [] (fun v _ _ => v = .int .i64 ((yc (ns.map qk.c) (ns.length) o.c.b : Nat) : Int))) ∧ yc (ns.map qk.c) (ns.length) o.c.b ≤ 100000 := fun hk h5 => by
     obtain ⟨a1,a2,a3⟩ := hlo hk
     obtain ⟨b1,b2⟩ := a3 h5
     have eb : o.c.b = (o.c.b.toNat : Int) := by omega
     rw [eb]
     exact ⟨ih _ (by omega) (by omega),by have := qri hlow o.c.b.toNat ns.length (by omega); omega⟩
   intro w hw
   refine qv _ func117 rfl ntmps117 rfl ?_ hw;refine sR ?_;refine oV ?_;refine nS ?_;iterate 2 refine oV ?_
   refine vk trivial rfl underlying27 sizeOf67 rfl (hsa) rfl (by omega) ?_;refine y7 trivial rfl isAgg67 sizeOf67 rfl rfl (qa6 hsa ho) ?_;refine qh trivial rfl zeroValue67 rfl (fun b5 => ?_);refine oS sizeOf67 ?_;refine oN (tC (cS (cB (sR ?_))));refine oF 0 underlying67 sizeOf3 ?_;refine oL isAgg3 ?_;iterate 2 refine oV ?_
   refine nT ?_;refine cC rfl (fun h1 => ?_) (fun h1 => ?_)
   ·
    have f1 := h1;try simp only [bl] at f1
    refine sR ?_;refine oV ?_;refine oN (tC (cT (qd (tR ?_))));refine ret1 rfl rfl ?_;refine qg (congrArg (Value.int .i64) ?_); rw [htz,if_pos (by omega)]; rfl
   have f1 := h1;try simp only [bl] at f1
   obtain ⟨ca,cal⟩ := hca (by omega)
   refine sR ?_;refine oF 0 underlying67 sizeOf3 ?_;refine oL isAgg3 ?_;iterate 2 refine oV ?_
   refine nT ?_;refine cC rfl (fun h2 => ?_) (fun h2 => ?_)
   ·
    have f2 := h2;try simp only [bl] at f2
    obtain ⟨cb,cbl⟩ := hcb (by omega) (by omega)
    refine cS ?_;refine jn (by kernel_rfl) (by kernel_rfl) (fun _ h => h.drawn) ?_;refine oV ?_;refine oF 1 underlying67 sizeOf3 ?_;refine oL isAgg3 ?_;refine oQ call117 rfl ca ?_;refine oV ?_;refine oF 2 underlying67 sizeOf3 ?_;refine oL isAgg3 ?_;refine oQ call117 rfl cb ?_;refine zq trivial rfl rfl rfl ?_
    (refine qf trivial rfl rfl rfl ?_ ?_; (omega))
    refine oV ?_;refine oN (tC (cT (qd (tR ?_))));refine ret1 rfl rfl ?_;refine qg (congrArg (Value.int .i64) ?_); rw [htz,if_neg (by omega),if_pos (by omega),hta (by omega),htb (by omega) (by omega)]; omega
   have f2 := h2;try simp only [bl] at f2
   refine cK (qe (tC (sR ?_)));refine oV ?_;refine oF 1 underlying67 sizeOf3 ?_;refine oL isAgg3 ?_;refine oQ call117 rfl ca ?_
   (refine qf trivial rfl rfl rfl ?_ ?_; (omega))
   refine oV ?_;refine nE ?_;refine ret1 rfl rfl ?_;refine qg (congrArg (Value.int .i64) ?_); rw [htz,if_neg (by omega),if_neg (by omega),hta (by omega)]; omega
theorem q0v (vi vl vo va : Value) (p : qx) (ns : List qk) {I : Hp} (hp : y5 I vi vl vo va p ns) (hlow : LowN p.all) (hn : ns.length ≤ 100000) :
   Fun prog 83 [.agg #[vi,vl,vo,va]] I [] (fun v I' _ => Slc I' 1 v (nss (jg p.all))) := by
 have hsi := hp.si
 have hsl := hp.sl
 have hso := hp.so
 have hsa := hp.sa
 have hla := z4 ns
 have hal : p.all.length = ns.length := by rw [← hp.eq,List.length_map]
 rw [← hp.eq] at hlow
 have hhz := qk9 p.all
 have hget : ∀ i, i < ns.length → (jg p.all)[i]? = some (yc (ns.map qk.c) ns.length (i : Int)) := fun i hi => by
   unfold jg
   rw [List.getElem?_map,List.getElem?_range (by omega),hp.eq,hal]; rfl
 intro w hw
 refine q9 _ func83 rfl ntmps83 rfl ?_ hw;refine sR ?_;refine qo trivial rfl rfl rfl (fun b1 => ?_);refine oV ?_;refine nS ?_;refine oV ?_;refine nU ?_;refine oV ?_;refine oN (tC (cB ?_));refine qu (ι := Nat × Value) [1] (.cons rfl .nil) (fun x => ns.length - x.1) (fun x E0 => (3,x.2) :: (4,.int .i64 (x.1 : Int)) :: E0) (fun x => St w [] I [.row x.2 3 1 x.1 (nvs ((jg p.all).take x.1)),.box b1 (.cells #[vi,vl,vo,va] 29 (0,0))]) (fun x => x.1 ≤ ns.length) ((0,.slice none 0 0)) (sC rfl (sC rfl (sC rfl sN))) (fun _ h => (h.nilRow _ _).sort (by repeat constructor)) (Nat.zero_le _) ?_;rintro ⟨i,uo⟩ hi
 try dsimp only
 simp only at hi
 refine cS (sR ?_);refine oV ?_;refine oF 3 underlying29 sizeOf27 ?_;refine oL isAgg27 ?_;refine qw trivial rfl underlying27 rfl (hsa) ?_;refine oV ?_;refine nT ?_;refine cC rfl (fun h1 => ?_) (fun h1 => ?_)
 ·
  have f1 := h1;try simp only [bl] at f1
  have hg := hget i (by omega)
  refine cK (tC (cS (cB (cR ?_))));refine oV ?_;refine oF 3 underlying29 sizeOf27 ?_;refine oL isAgg27 ?_;refine oV ?_;refine oQ call117 rfl (q0u va ns hsa hp.ok hlow hn i (by omega)) ?_;refine oB underlying32 sizeOf3 zeroValue3 fun b17 => ?_;refine oD underlying32 vp fun v18 => ?_;refine oV ?_;refine oN (qe (tC (cR ?_)));refine oV ?_
  (refine qf trivial rfl rfl rfl ?_ ?_; (omega))
  refine oV ?_;refine oN ?_;exact qj (i + 1,v18) (sC rfl (sC rfl (sC rfl sN))) (fun _ h => by rw [List.take_add_one,hg,show nvs ((jg p.all).take i ++ (some (yc (ns.map qk.c) ns.length (i : Int))).toList) = nvs ((jg p.all).take i) ++ [.int .i64 ((yc (ns.map qk.c) ns.length (i : Int) : Nat) : Int)] by simp [nvs]]; exact h.sort (by repeat constructor)) (by show ns.length - (i + 1) < ns.length - i; omega) (by show i + 1 ≤ _; omega)
 have f1 := h1;try simp only [bl] at f1
 refine qq (qc (qc (qp rfl (tC (sR ?_)))));iterate 2 refine oV ?_
 refine nE ?_;refine ret1 rfl rfl ?_
 have hin : i = ns.length := by omega
 subst hin
 exact fun w' hw' => qit (e := 3) (size := 1) (nn := ns.length) (u := uo) (xss := nss (jg p.all)) (by rw [qbp,hhz,hal]) (qh0 _) (by unfold maxLen; omega) (fun I' hl hs' => hs') w' (by rw [qhz]; rw [List.take_of_length_le (by omega)] at hw'; exact hw')
theorem q0w (vi vl vo va : Value) (p : qx) (ns : List qk) {I : Hp} (hp : y5 I vi vl vo va p ns) (hlow : LowN p.all) (hn : ns.length ≤ 100000) :
   Fun prog 54 [.agg #[vi,vl,vo,va]] I [] (fun v _ _ => v = .bool (qdw p)) := by
 have hsi := hp.si
 have hsl := hp.sl
 have hso := hp.so
 have hsa := hp.sa
 have hli := jf p.ins
 have hlo := jf p.outs
 have hll : (p.lets.map LetC.cells).length = p.lets.length := List.length_map _
 have hla := z4 ns
 have hal : p.all.length = ns.length := by rw [← hp.eq,List.length_map]
 have hhz := qk9 p.all
 have hnl := qbp (jg p.all)
 intro w hw
 refine q9 _ func54 rfl ntmps54 rfl ?_ hw;refine sR ?_;refine qo trivial rfl rfl rfl (fun b1 => ?_);refine oV ?_;refine nU ?_;refine oF 3 underlying29 sizeOf27 ?_;refine oL isAgg27 ?_;refine qw trivial rfl underlying27 rfl (hsa) ?_;refine oV ?_;refine' oZ (fun hb9 => ?_) ?_;rotate_left
 ·
  have fb9 := hb9
  try simp only [bl] at fb9
  refine gF hb9 0 underlying29 sizeOf25 ?_;refine gL hb9 isAgg25 ?_;refine qw (wS rfl rfl hb9) rfl underlying25 rfl (hsi) ?_;refine gV hb9 ?_;refine oN ?_;exact qa rfl
 refine' oZ (fun hb15 => ?_) ?_;rotate_left
 ·
  have fb15 := hb15
  try simp only [bl] at fb15
  refine gF hb15 1 underlying29 sizeOf26 ?_;refine gL hb15 isAgg26 ?_;refine qw (wS rfl rfl hb15) rfl underlying26 rfl (hsl) ?_;refine gV hb15 ?_;refine oN ?_;exact qa rfl
 refine' oZ (fun hb21 => ?_) ?_;rotate_left
 ·
  have fb21 := hb21
  try simp only [bl] at fb21
  refine gF hb21 2 underlying29 sizeOf25 ?_;refine gL hb21 isAgg25 ?_;refine qw (wS rfl rfl hb21) rfl underlying25 rfl (hso) ?_;refine gV hb21 ?_;refine oN ?_;exact qa rfl
 refine nT ?_;refine cC rfl (fun h1 => ?_) (fun h1 => ?_)
 ·
  have f1 := h1;try simp only [bl] at f1
  refine sR ?_;refine oV ?_;refine nF ?_;refine ret1 rfl rfl ?_;refine qg (congrArg Value.bool ?_)
  unfold qdw
  simp at h1
  simp
  omega
 have f1 := h1;try simp only [bl] at f1
 have hno : ¬ 400 < p.all.length ∧ ¬ 40 < p.ins.length ∧ ¬ 40 < p.lets.length ∧ ¬ 40 < p.outs.length := by
   simp at h1
   omega
 refine kS ?_;refine oA isAgg29 sizeOf29 ?_;refine oI call83 rfl (q0v vi vl vo va p ns hp hlow hn) ?_;rintro v28 I2 hx2 hs2;refine oV ?_;refine nU ?_;refine oV ?_;refine oN (tC (cB ?_));refine qu (ι := Nat) [3] (.cons rfl .nil) (fun x => (jg p.all).length - x) (fun x E0 => (4,.int .i64 (x : Int)) :: E0) (fun x => St w [] I2 [.box b1 (.cells #[vi,vl,vo,va] 29 (0,0))]) (fun x => x ≤ (jg p.all).length ∧ (jg p.all).any (fun h => decide (60 < h)) = ((jg p.all).drop x).any (fun h => decide (60 < h))) (0) (sC rfl (sC rfl sN)) (fun _ h => h) (⟨Nat.zero_le _,rfl⟩) ?_;rintro i ⟨hi,hF⟩
 try dsimp only
 refine cS (sR ?_);iterate 2 refine oV ?_
 refine qw trivial rfl underlying32 rfl (hs2) ?_;refine oV ?_;refine nT ?_;refine cC rfl (fun h2 => ?_) (fun h2 => ?_)
 ·
  have f2 := h2;try simp only [bl] at f2
  obtain ⟨k,hk⟩ : ∃ k,(jg p.all)[i]? = some k := ⟨(jg p.all)[i]'(by omega),List.getElem?_eq_getElem (by omega)⟩
  have hst : ((jg p.all).drop i).any (fun h => decide (60 < h)) = (decide (60 < k) || ((jg p.all).drop (i + 1)).any (fun h => decide (60 < h))) := by
    rw [List.drop_eq_getElem_cons (List.getElem?_eq_some_iff.1 hk).1,List.any_cons,(List.getElem?_eq_some_iff.1 hk).2]
  refine cK (tC (cS (cB (sR ?_))));iterate 2 refine oV ?_
  refine vk trivial rfl underlying32 sizeOf3 rfl (hs2) rfl (by omega) ?_;refine q8 trivial rfl isAgg3 rfl (qqn hs2 hk) ?_;refine oV ?_;refine nT ?_;refine cC rfl (fun h3 => ?_) (fun h3 => ?_)
  ·
   have f3 := h3;try simp only [bl] at f3
   refine sR ?_;refine oV ?_;refine oN (tC (cT (qd (tR (tR (qd (tR ?_)))))));refine ret1 rfl rfl ?_;refine leaf hx2 (List.nil_sublist _) (congrArg Value.bool ?_)
   unfold qdw
   rw [hF,hst,decide_eq_true (show 60 < k by omega)]
   simp
  have f3 := h3;try simp only [bl] at f3
  refine cK (qe (tC (cR ?_)));refine oV ?_
  (refine qf trivial rfl rfl rfl ?_ ?_; (omega))
  refine oV ?_;refine oN ?_;exact qj (i + 1) (sC rfl (sC rfl sN)) (fun _ h => h) (by show (jg p.all).length - (i + 1) < (jg p.all).length - i; omega) ⟨by show i + 1 ≤ _; omega,by rw [hF,hst,decide_eq_false (show ¬ 60 < k by omega)]; rfl⟩
 have f2 := h2;try simp only [bl] at f2
 refine qq (qc (qc (qp rfl (tC (sR ?_)))));refine oV ?_;refine nE ?_;refine ret1 rfl rfl ?_;refine leaf hx2 (List.nil_sublist _) (congrArg Value.bool ?_)
 rw [List.drop_eq_nil_of_le (by omega)] at hF
 unfold qdw
 rw [hF]
 simp
 omega
theorem q0x (va : Value) (A : List Nat) (m : Nat) {I : Hp} (ha : Ws I va A) (hs : A.length ≤ 35184372088400) (hm : m ≤ 10000000000000000) (hr : (natW (val A * 2 ^ min m 100000)).length ≤ 35184372088400) : Fun prog 102 [va,.int .i64 (m : Int)] I [] (fun v I' _ => Ws I' v (natW (val A * 2 ^ min m 100000))) := by
 have hA := y0 ha.wds
 intro w hw
 refine qv _ func102 rfl ntmps102 rfl ?_ hw;refine sR ?_;refine oV ?_;refine nS ?_;refine oV ?_;refine oI call55 rfl (zy _ _ ha (by omega)) ?_;rintro u1 I1 hx1 hs1;refine oV ?_;refine nU ?_;refine oV ?_;refine oN (tC (cB ?_));refine qu (ι := Nat × Value × Hp) [1] (.cons rfl .nil) (fun x => m - x.1) (fun x E0 => (5,x.2.1) :: (6,.int .i64 (x.1 : Nat)) :: E0) (fun x => St w [] x.2.2 []) (fun x => x.1 ≤ min m 100000 ∧ Ws x.2.2 x.2.1 (natW (val A * 2 ^ x.1)) ∧ Ext w.heap.size I x.2.2) ((0,u1,I1)) (sC rfl (sC rfl (sC rfl sN))) (fun _ h => h) (⟨Nat.zero_le _,by show Ws I1 u1 (natW (val A * 1)); rw [Nat.mul_one]; exact hs1,hx1⟩) ?_;rintro ⟨i,u,I2⟩ ⟨hi,hu,hx2⟩
 try dsimp only
 simp only at hi hu hx2
 refine cS (sR ?_);iterate 3 refine oV ?_
 refine' oY (fun hb12 => ?_) ?_;rotate_left
 ·
  iterate 2 refine gV hb12 ?_
  refine oN ?_;exact qa rfl
 refine' oY (fun hb16 => ?_) ?_;rotate_left
 ·
  have fb16 := hb16
  try simp only [bl] at fb16
  refine gV hb16 ?_;refine vj (wS rfl rfl hb16) rfl underlying46 rfl (hu) ?_;refine gV hb16 ?_;refine oN ?_;exact qa rfl
 refine nT ?_;refine cC rfl (fun h1 => ?_) (fun h1 => ?_)
 ·
  have f1 := h1;try simp only [bl] at f1
  have hl1 : (natW (val A * 2 ^ i)).length ≤ 35184372088400 := Nat.le_trans (y8 (Nat.mul_le_mul_left _ (Nat.pow_le_pow_right (by decide) hi))) hr
  refine cK (tC (cS (cB (cR ?_))));refine oV ?_;refine oI call103 rfl (qdd _ _ 2 0 hu (by omega) (by decide) (by decide)) ?_;rintro u3 I3 hx3 hs3;refine oV ?_;refine oN (qe (tC (cR ?_)));refine oV ?_
  (refine qf trivial rfl rfl rfl ?_ ?_; (omega))
  refine oV ?_;refine oN ?_
  rw [qb,Nat.add_zero,Nat.mul_assoc,← Nat.pow_succ] at hs3
  exact qj (i + 1,u3,I3) (sC rfl (sC rfl (sC rfl sN))) (fun _ h => h) (by show m - (i + 1) < m - i; omega) ⟨by show i + 1 ≤ _; omega,hs3,hx2.trans hx3 (Nat.le_refl _)⟩
 have f1 := h1;try simp only [bl] at f1
 refine qq (qc (qc (qp rfl (tC (sR ?_)))));iterate 2 refine oV ?_
 refine nE ?_;refine ret1 rfl rfl ?_;refine leaf hx2 (List.nil_sublist _) ?_
 by_cases him : i = min m 100000
 · rw [← him]; exact hu
 · have h0 : val A * 2 ^ i = 0 := jh.1 (by omega)
   have hp : 0 < 2 ^ i := Nat.pow_pos (by decide)
   have h1 : val A = 0 := by
     rcases Nat.mul_eq_zero.1 h0 with h | h
     · exact h
     · omega
   rw [h1,Nat.zero_mul] at hu ⊢
   exact hu
theorem q0y (va vb : Value) (A B : List Nat) {I : Hp} (ha : Ws I va A) (hb : Ws I vb B) (hs : A.length ≤ 35184372088400) (hs2 : B.length ≤ 35184372088400) : Fun prog 71 [va,vb] I [] (fun v I' _ => ∃ g,Ws I' v (natW g) ∧ (natW g).length ≤ 35184372088400 ∧ (val B ≠ 0 → 0 < g)) := by
 have hal : (natW (val A)).length ≤ 35184372088400 := Nat.le_trans (qad ha.wds) hs
 have hbl : (natW (val B)).length ≤ 35184372088400 := Nat.le_trans (qad hb.wds) hs2
 intro w hw
 refine qv _ func71 rfl ntmps71 rfl ?_ hw;refine sR ?_;refine oV ?_;refine nS ?_;refine oV ?_;refine oI call55 rfl (zy _ _ ha (by omega)) ?_;rintro u1 I1 hx1 hs1;refine oV ?_;refine nS ?_;refine oV ?_;refine oI call55 rfl (zy _ _ (hb.le hx1.le) (by omega)) ?_;rintro u2 I2 hx2 hs2';refine oV ?_;refine nU ?_;refine oV ?_;refine vj trivial rfl underlying46 rfl (hs1.le hx2.le) ?_;refine oV ?_;refine nT ?_;refine cC rfl (fun h1 => ?_) (fun h1 => ?_)
 ·
  have f1 := h1;try simp only [bl] at f1
  refine sR ?_;iterate 2 refine oV ?_
  refine nF ?_;refine ret1 rfl rfl ?_
  have h0 : val A = 0 := jh.1 (by omega)
  exact leaf (hx1.trans hx2 (Nat.le_refl _)) (List.nil_sublist _) ⟨val B,hs2',hbl,fun h => Nat.pos_of_ne_zero h⟩
 have f1 := h1;try simp only [bl] at f1
 refine cK (tC (cS (sR ?_)));refine oV ?_;refine vj trivial rfl underlying46 rfl (hs2') ?_;refine oV ?_;refine nT ?_;refine cC rfl (fun h2 => ?_) (fun h2 => ?_)
 ·
  have f2 := h2;try simp only [bl] at f2
  refine sR ?_;iterate 2 refine oV ?_
  refine nF ?_;refine ret1 rfl rfl ?_
  have h0 : val B = 0 := jh.1 (by omega)
  exact leaf (hx1.trans hx2 (Nat.le_refl _)) (List.nil_sublist _) ⟨val A,hs1.le hx2.le,hal,fun h => absurd h0 h⟩
 have f2 := h2;try simp only [bl] at f2
 have hA0 : 0 < val A := Nat.pos_of_ne_zero fun e => f1 (by rw [e,yh]; rfl)
 have hB0 : 0 < val B := Nat.pos_of_ne_zero fun e => f2 (by rw [e,yh]; rfl)
 refine kS ?_;refine oV ?_;refine oI call99 rfl (qek _ _ (hs1.le hx2.le) (by omega) hA0) ?_;rintro _ I3 hx3 ⟨u3,x,n,rfl,hs3,ho3⟩;iterate 5 refine oV ?_
 refine oN (tC (cS ?_))
 have hn := ho3.pow_lt hal
 refine cR ?_;refine oV ?_;refine oI call99 rfl (qek _ _ (hs2'.le hx3.le) (by omega) hB0) ?_;rintro _ I4 hx4 ⟨u4,y,k,rfl,hs4,ho4⟩;iterate 5 refine oV ?_
 refine oN (tC (cS (cB ?_)));refine qu (ι := Nat × Nat × Value × Value × Hp) [7,8] (.cons rfl (.cons rfl .nil)) (fun t => t.1 + t.2.1) (fun t E0 => (5,t.2.2.1) :: (6,t.2.2.2.1) :: E0) (fun t => St w [] t.2.2.2.2 []) (fun t => t.1 % 2 = 1 ∧ t.2.1 % 2 = 1 ∧ Nat.gcd t.1 t.2.1 = Nat.gcd x y ∧ Ws t.2.2.2.2 t.2.2.1 (natW t.1) ∧ Ws t.2.2.2.2 t.2.2.2.1 (natW t.2.1) ∧ (natW t.1).length ≤ 35184372088400 ∧ (natW t.2.1).length ≤ 35184372088400 ∧ Ext w.heap.size I t.2.2.2.2) ((x,y,u3,u4,I4)) (sC rfl (sC rfl (sC rfl (sC rfl sN)))) (fun _ h => h) (⟨ho3.odd,ho4.odd,rfl,hs3.le hx4.le,hs4,Nat.le_trans (y8 ho3.le) hal,Nat.le_trans (y8 ho4.le) hbl,hx1.trans (hx2.trans (hx3.trans hx4 (Nat.le_refl _)) (Nat.le_refl _)) (Nat.le_refl _)⟩) ?_;rintro ⟨a,b,ua,ub,I5⟩ ⟨hao,hbo,hg,hua,hub,hla,hlb,hx5⟩
 try dsimp only
 simp only at hao hbo hg hua hub hla hlb hx5
 refine cS (sR ?_);iterate 2 refine oV ?_
 refine oQ call100 rfl (qdc _ _ _ _ hua hub (by omega) (by omega)) ?_;refine oV ?_;refine nT ?_;refine cC rfl (fun h3 => ?_) (fun h3 => ?_)
 ·
  have f3 := h3;try simp only [bl] at f3
  rw [qb,qb] at f3
  have hab : a ≠ b := fun e => f3 (by rw [e]; exact qck _)
  refine cK (tC (cB ?_));refine jk (ι := Nat × Nat × Value × Value) [7,8] (.cons rfl (.cons rfl .nil)) (fun t E0 => (5,t.2.2.1) :: (6,t.2.2.2) :: E0) (fun t => St w [] I5 []) (fun t => t.1 % 2 = 1 ∧ t.2.1 % 2 = 1 ∧ Nat.gcd t.1 t.2.1 = Nat.gcd x y ∧ Ws I5 t.2.2.1 (natW t.1) ∧ Ws I5 t.2.2.2 (natW t.2.1) ∧ (natW t.1).length ≤ 35184372088400 ∧ (natW t.2.1).length ≤ 35184372088400 ∧ t.2.1 < t.1 ∧ t.1 + t.2.1 = a + b) ?_ ?_
  ·
   refine sR ?_;iterate 2 refine oV ?_
   refine oQ call100 rfl (qdc _ _ _ _ hua hub (by omega) (by omega)) ?_;refine oV ?_;refine nT ?_;refine cC rfl (fun h4 => ?_) (fun h4 => ?_)
   ·
    have f4 := h4;try simp only [bl] at f4
    rw [qb,qb] at f4
    have hlt : a < b := by unfold cmpZ at f4; split at f4 <;> (try split at f4) <;> omega
    refine sR ?_;iterate 2 refine oV ?_
    refine nS ?_;iterate 2 refine oV ?_
    refine nR ?_;iterate 2 refine oV ?_
    refine oN ?_
    (exact meet (b,a,ub,ua) (sC rfl (sC rfl (sC rfl (sC rfl sN)))) (fun _ h => h) ⟨hbo,hao,by rw [Nat.gcd_comm]; exact hg,hub,hua,hlb,hla,hlt,by show b + a = a + b; omega⟩)
   have f4 := h4;try simp only [bl] at f4
   rw [qb,qb] at f4
   have hlt : ¬ a < b := fun h => by rw [qcj (by omega)] at f4; omega
   refine cK ?_
   (exact meet (a,b,ua,ub) (sC rfl (sC rfl (sC rfl (sC rfl sN)))) (fun _ h => h) ⟨hao,hbo,hg,hua,hub,hla,hlb,by show b < a; omega,rfl⟩)
  rintro ⟨c,d,uc,ud⟩ ⟨hco,hdo,hg2,huc,hud,hlc,hld,hdc,hsum⟩
  try dsimp only
  refine cS ?_
  simp only at hco hdo hg2 huc hud hlc hld hdc hsum
  refine cR ?_;iterate 2 refine oV ?_
  refine oI call101 rfl (qfx _ _ _ _ huc hud (by omega) (by omega) (by rw [qb,qb]; omega)) ?_;rintro _ I6 hx6 ⟨u6,rfl,hs6⟩;iterate 4 refine oV ?_
  refine nT ?_
  rw [qb,qb] at hs6
  have hl6 : (natW (c - d)).length ≤ 35184372088400 := Nat.le_trans (y8 (Nat.sub_le _ _)) hlc
  refine cR ?_;refine oV ?_;refine oI call99 rfl (qek _ _ hs6 (by omega) (by omega)) ?_;rintro _ I7 hx7 ⟨u7,z,p,rfl,hs7,ho7⟩;iterate 4 refine oV ?_
  refine oN (qe ?_);exact qj (z,d,u7,ud,I7) (sC rfl (sC rfl (sC rfl (sC rfl sN)))) (fun _ h => h) (by show z + d < a + b; have := ho7.le; omega) ⟨ho7.odd,hdo,by show Nat.gcd z d = _; rw [qmv hdo (by omega) ho7.eq]; exact hg2,hs7,hud.le (hx6.le.trans hx7.le),Nat.le_trans (y8 ho7.le) hl6,hld,hx5.trans (hx6.trans hx7 (Nat.le_refl _)) (Nat.le_refl _)⟩
 have f3 := h3;try simp only [bl] at f3
 rw [qb,qb] at f3
 have hab : a = b := by have := qfo f3; omega
 refine qq (qc (qc (qp rfl (tC (sR ?_)))));iterate 3 refine oV ?_
 refine qgv trivial rfl rfl rfl ?_
 rw [show min (n : Int) (k : Int) = ((min n k : Nat) : Int) by omega]
 refine qdz trivial rfl call102 rfl (q0x _ _ (min n k) hua hla (by omega) (by
 rw [qb]
 refine Nat.le_trans (y8 ?_) hal
 have h1 : a ≤ x := by rw [← Nat.gcd_self a,show Nat.gcd a a = Nat.gcd a b by rw [← hab],hg]; exact Nat.gcd_le_left _ ho3.pos
 have h2 : 2 ^ min (min n k) 100000 ≤ 2 ^ n := Nat.pow_le_pow_right (by decide) (by omega)
 rw [ho3.eq,Nat.mul_comm (2 ^ n)]
 exact Nat.mul_le_mul h1 h2)) ?_
 rintro u8 I8 hx8 hs8;refine oV ?_;refine nE ?_;refine ret1 rfl rfl ?_
 rw [qb] at hs8
 refine leaf (hx5.trans hx8 (Nat.le_refl _)) (List.nil_sublist _) ⟨_,hs8,?_,fun _ => Nat.mul_pos (by omega) (Nat.pow_pos (by decide))⟩;refine Nat.le_trans (y8 ?_) hal
 have h1 : a ≤ x := by rw [← Nat.gcd_self a,show Nat.gcd a a = Nat.gcd a b by rw [← hab],hg]; exact Nat.gcd_le_left _ ho3.pos
 have h2 : 2 ^ min (min n k) 100000 ≤ 2 ^ n := Nat.pow_le_pow_right (by decide) (by omega)
 rw [ho3.eq,Nat.mul_comm (2 ^ n)]
 exact Nat.mul_le_mul h1 h2
theorem q0z (va vb : Value) (A B : List Nat) {I : Hp} (ha : Ws I va A) (hb : Ws I vb B) (hs : A.length ≤ 35184372088400) (hs2 : B.length ≤ 35184372088400) : Fun prog 46 [va,vb] I [] (fun v I' _ => ∃ u1 u2 b N D,v = .tuple #[u1,u2,.bool b] ∧ Ws I' u1 N ∧ Ws I' u2 D) := by
 have hbl : (natW (val B)).length ≤ 35184372088400 := Nat.le_trans (qad hb.wds) hs2
 intro w hw
 refine qv _ func46 rfl ntmps46 rfl ?_ hw;refine sR ?_;iterate 3 refine oV ?_
 refine nS ?_;refine oV ?_;refine oI call55 rfl (zy _ _ hb (by omega)) ?_;rintro u1 I1 hx1 hs1;refine oV ?_;refine nU ?_;refine oV ?_;refine vj trivial rfl underlying46 rfl (hs1) ?_;refine oV ?_;refine nT ?_;refine cC rfl (fun h1 => ?_) (fun h1 => ?_)
 ·
  have f1 := h1;try simp only [bl] at f1
  refine sR ?_;iterate 3 refine oV ?_
  refine nF ?_;refine ret3 rfl rfl rfl rfl ?_;exact leaf hx1 (List.nil_sublist _) ⟨.slice none 0 0,.slice none 0 0,false,[],[],rfl,Ws.nil _,Ws.nil _⟩
 have f1 := h1;try simp only [bl] at f1
 have h0 : 0 < val B := Nat.pos_of_ne_zero fun e => f1 (by rw [e,yh]; rfl)
 refine kS ?_;iterate 2 refine oV ?_
 refine oI call71 rfl (q0y _ _ _ _ (ha.le hx1.le) hs1 hs (by omega)) ?_;rintro u2 I2 hx2 ⟨g,hs2',hgl,hg0⟩;refine oV ?_;refine oN (tC (cS ?_))
 have hg : 0 < g := hg0 (by rw [qb]; omega)
 refine cR ?_;iterate 2 refine oV ?_
 refine oI call72 rfl (qfy _ _ _ _ (ha.le (hx1.le.trans hx2.le)) hs2' (by omega) (by omega) (by rw [qb]; exact hg)) ?_;rintro _ I3 hx3 ⟨u3,u4,rfl,hq3,hr3⟩;iterate 7 refine oV ?_
 refine nS ?_;iterate 2 refine oV ?_
 refine oI call72 rfl (qfy _ _ _ _ (hs1.le (hx2.le.trans hx3.le)) (hs2'.le hx3.le) (by omega) (by omega) (by rw [qb]; exact hg)) ?_;rintro _ I4 hx4 ⟨u5,u6,rfl,hq5,hr5⟩;iterate 5 refine oV ?_
 refine nS ?_;iterate 5 refine oV ?_
 refine nE ?_;refine ret3 rfl rfl rfl rfl ?_;exact leaf (hx1.trans (hx2.trans (hx3.trans hx4 (Nat.le_refl _)) (Nat.le_refl _)) (Nat.le_refl _)) (List.nil_sublist _) ⟨u3,u5,true,_,_,rfl,hq3.le hx4.le,hq5⟩
def RatB (I : Hp) (v : Value) : Prop := ∃ s u1 u2 N D,v = .agg #[.bool s,u1,u2] ∧ Ws I u1 N ∧ Ws I u2 D
theorem q00 (neg : Bool) (va vb : Value) (A B : List Nat) {I : Hp} (ha : Ws I va A) (hb : Ws I vb B) (hs : A.length ≤ 35184372088400) (hs2 : B.length ≤ 35184372088400) : Fun prog 31 [.agg #[.bool neg,va],vb] I [] (fun v I' _ => RatB I' v) := by
 intro w hw
 refine qv _ func31 rfl ntmps31 rfl ?_ hw;refine sR ?_;refine qo trivial rfl rfl rfl (fun b2 => ?_);refine qh trivial rfl zeroValue48 rfl (fun b4 => ?_);refine nS ?_;refine oF 1 underlying81 sizeOf46 ?_;refine oL isAgg46 ?_;refine oV ?_;refine oI call46 rfl (q0z _ _ _ _ ha hb hs hs2) ?_;rintro _ I1 hx1 ⟨u1,u2,b,N,D,rfl,hu1,hu2⟩;iterate 7 refine oV ?_
 refine nU ?_;iterate 2 refine oV ?_
 refine' oZ (fun hb18 => ?_) ?_;rotate_left
 ·
  have fb18 := hb18
  try simp only [bl] at fb18
  refine gV hb18 ?_;refine vj (wS rfl rfl hb18) rfl underlying46 rfl (hu1) ?_;refine gV hb18 ?_;refine oN ?_;exact qa rfl
 refine nT ?_;refine cC rfl (fun h1 => ?_) (fun h1 => ?_)
 ·
  have f1 := h1;try simp only [bl] at f1
  refine sR ?_;refine oB underlying46 sizeOf83 zeroValue83 fun b23 => ?_;refine qaz [1] .here (jx (by decide) zc) (by unfold maxLen; simp) (fun I2 hx2 hs2' => ?_);refine vg trivial rfl (zd) rfl (.cons rfl (by exact (Ws.cells1 (by assumption)).1) (by rfl) (by repeat constructor) .nil) ?_;refine oS sizeOf48 ?_;refine nF ?_;refine retR rfl (.agg isAgg48 sizeOf48 rfl (by repeat constructor) rfl .nil) ?_;exact leaf (hx1.trans hx2 (Nat.le_refl _)) (List.nil_sublist _) ⟨false,_,_,[],[1],rfl,Ws.nil _,hs2'⟩
 have f1 := h1;try simp only [bl] at f1
 refine kS ?_;refine oF 0 underlying81 sizeOf4 ?_;refine oL isAgg4 ?_;iterate 2 refine oV ?_
 refine vg trivial rfl (zd) rfl (.cons rfl rfl rfl (by repeat constructor) (.cons rfl (by exact (Ws.cells1 (by assumption)).1) (by rfl) (by repeat constructor) (.cons rfl (by exact (Ws.cells1 (by assumption)).1) (by rfl) (by repeat constructor) .nil))) ?_;refine oS sizeOf48 ?_;refine nE ?_;refine retR rfl (.agg isAgg48 sizeOf48 rfl (by repeat constructor) rfl .nil) ?_;exact leaf hx1 (List.nil_sublist _) ⟨neg,u1,u2,N,D,rfl,hu1,hu2⟩
theorem q01 (neg : Bool) (va vb : Value) (A B : List Nat) {I : Hp} (ha : Ws I va A) (hb : Ws I vb B) (hs : A.length ≤ 35184372088400) (hs2 : B.length ≤ 35184372088400) : Fun prog 43 [.agg #[.bool neg,va,vb]] I [] (fun v I' _ => RatB I' v) := by
 intro w hw
 refine q9 _ func43 rfl ntmps43 rfl ?_ hw;refine sR ?_;refine qo trivial rfl rfl rfl (fun b1 => ?_);refine qh trivial rfl zeroValue48 rfl (fun b2 => ?_);refine nS ?_;refine oF 0 underlying48 sizeOf4 ?_;refine oL isAgg4 ?_;refine oF 1 underlying48 sizeOf46 ?_;refine oL isAgg46 ?_;refine vg trivial rfl (zk) rfl (.cons rfl rfl rfl (by repeat constructor) (.cons rfl (by exact (Ws.cells1 (by assumption)).1) (by rfl) (by repeat constructor) .nil)) ?_;refine oF 2 underlying48 sizeOf46 ?_;refine oL isAgg46 ?_;refine oI call31 rfl (q00 neg _ _ _ _ ha hb hs hs2) ?_;rintro _ I1 hx1 ⟨s,u1,u2,N,D,rfl,h1,h2⟩;refine oS sizeOf48 ?_;refine nE ?_;refine retR rfl (.agg isAgg48 sizeOf48 rfl (by repeat constructor) rfl .nil) ?_;exact leaf hx1 (List.nil_sublist _) ⟨s,u1,u2,N,D,rfl,h1,h2⟩
theorem q02 (neg : Bool) (va vb : Value) (A B : List Nat) {I : Hp} (ha : Ws I va A) (hb : Ws I vb B) (hs : A.length ≤ 35184372088400) (hs2 : B.length ≤ 35184372088400) : Fun prog 39 [.agg #[.bool neg,va,vb]] I [] (fun v _ _ => ∃ b,v = .bool b) := by
 intro w hw
 refine q9 _ func39 rfl ntmps39 rfl ?_ hw;refine sR ?_;refine qo trivial rfl rfl rfl (fun b1 => ?_);refine oV ?_;refine oN (tC (cS ?_));refine yb (m := 5) [.box b1 _] (by repeat constructor) (by kernel_rfl) rfl ?_;refine qT (i := 0) (qB 5 1) (Hp.Le.refl _) rfl rfl (oA isAgg48 sizeOf48 qF) ?_;refine qT (i := 2) (qB 5 5) (Hp.Le.refl _) rfl rfl (oA isAgg48 sizeOf48 qF) ?_;refine qO (i := 1) (qB 5 7) rfl ?_;refine oI call43 rfl (q01 neg _ _ _ _ ha hb hs hs2) ?_;rintro _ I1 hx1 ⟨s,u1,u2,N,D,rfl,h1,h2⟩;refine qM (hx1.le) ?_;refine qO (i := 3) (qB 5 15) rfl ?_;refine oQ call14 rfl (qdf s neg _ _ _ _ N D A B h1 h2 (ha.le hx1.le) (hb.le hx1.le)) ?_;refine qM (hx1.le) ?_;refine qT (i := 4) (qB 5 31) (hx1.le) rfl rfl (oV qF) ?_;refine qn (by kernel_rfl) ?_;refine tC (cT ?_);refine ret1 rfl rfl ?_;exact leaf hx1 (List.nil_sublist _) ⟨_,rfl⟩
theorem qrm {l : List NodeC} {fr : Int} : ∀ (f : Nat) (i : Int),fr - 1 ≤ begZ l fr f i ∧ begZ l fr f i ≤ max i (fr - 1) := by
 intro f
 induction f with
 | zero => intro i; simp only [begZ]; omega
 | succ f ih =>
   intro i
   unfold begZ
   split
   · omega
   · split
     · omega
     · rename_i n _
       split
       · omega
       · split
         · split
           · omega
           · have := ih n.a; omega
         · split
           · omega
           · split
             · omega
             · have := ih n.a; have := ih n.b; omega
theorem qla {l : List NodeC} {fr i : Int} {f : Nat} {c : NodeC} (hi : ¬ i < fr) (hc : l[i.toNat]? = some c) : begZ l fr (f + 1) i = if c.kind = 0 ∨ c.kind = 1 then i else if c.kind = 6 ∨ c.kind = 7 then (if c.a ≠ i - 1 then fr - 1 else begZ l fr f c.a) else if c.b ≠ i - 1 then fr - 1 else if begZ l fr f c.b < fr ∨ c.a ≠ begZ l fr f c.b - 1 then fr - 1 else begZ l fr f c.a := by
 conv => lhs; unfold begZ
 rw [if_neg hi,hc]
theorem qh3 {l : List NodeC} {fr i : Int} (f : Nat) (h : i < fr) : begZ l fr f i = fr - 1 := by
 cases f with
 | zero => rfl
 | succ f => unfold begZ; rw [if_pos h]
theorem q03 : ∀ (x : Ex) (b : Nat),x.ok → ∀ c ∈ x.nd b,(vr c).isSome = true := by
 intro x
 induction x with
 | ref t => intro b h c hc; rw [List.mem_singleton.1 hc,qke h]; rfl
 | num q => intro b h c hc; rw [List.mem_singleton.1 hc,qp5 h]; rfl
 | neg x ih =>
   intro b h c hc
   rcases List.mem_append.1 hc with hc | hc
   · exact ih b h c hc
   · rw [List.mem_singleton.1 hc,qkf]; rfl
 | pow x e ih =>
   intro b h c hc
   rcases List.mem_append.1 hc with hc | hc
   · exact ih b h.1 c hc
   · rw [List.mem_singleton.1 hc,qkg h.2]; rfl
 | bin k x y ih1 ih2 =>
   intro b h c hc
   obtain ⟨h1,h2,h3,h4⟩ := h
   rcases List.mem_append.1 hc with hc | hc
   · rcases List.mem_append.1 hc with hc | hc
     · exact ih1 b h3 c hc
     · exact ih2 _ h4 c hc
   · rw [List.mem_singleton.1 hc,qkh ⟨h1,h2⟩]; rfl
theorem qrn : ∀ (l : List (ByteArray × Ex)) (b : Nat), qaq l → ∀ c ∈ (laid l b).2, (vr c).isSome = true
 | [],_,_,c,hc => by cases hc
 | (s, x) :: l, b, h, c, hc => by
   rcases List.mem_append.1 hc with hc | hc
   · exact q03 x b (h _ List.mem_cons_self).2 c hc
   · exact qrn l _ (fun a ha => h a (List.mem_cons_of_mem _ ha)) c hc
def bgGo (all : List NodeC) : List LetC → Int → Option Int
 | [],fr => some fr
 | l :: ls,fr => if yk l.name = true ∧ fr ≤ l.root ∧ l.root < all.length ∧ begZ all fr all.length l.root = fr then bgGo all ls (l.root + 1) else none
theorem qlb (all : List NodeC) : ∀ (l : List (ByteArray × Ex)) (b : Nat), qaq l → (∀ j c, (laid l b).2[j]? = some c → all[b + j]? = some c) → b + (laid l b).2.length ≤ all.length → bgGo all (laid l b).1 b = some ((b + (laid l b).2.length : Nat) : Int)
 | [],b,_,_,_ => by simp [bgGo,laid]
 | (s, x) :: l, b, h, hat, hle => by
   obtain ⟨h1,h2⟩ := h _ List.mem_cons_self
   have hn := x.n_pos
   have hln : (x.nd b ++ (laid l (b + x.n)).2).length = x.n + (laid l (b + x.n)).2.length := by rw [List.length_append,x.nd_len]
   change b + (x.nd b ++ (laid l (b + x.n)).2).length ≤ _ at hle
   have hA : At all b x := fun j c hj => hat j c (by
     show (x.nd b ++ (laid l (b + x.n)).2)[j]? = some c
     rw [List.getElem?_append_left (List.getElem?_eq_some_iff.1 hj).1]; exact hj)
   have hB := qzj (fr := (b : Int)) (by omega) x b all.length h2 hA (Int.le_refl _) (by omega)
   show bgGo all (⟨s,(b : Int) + x.n - 1⟩ :: (laid l (b + x.n)).1) b = _
   unfold bgGo
   rw [if_pos ⟨h1,by dsimp only; omega,by dsimp only; omega,hB⟩]
   have e : ((b : Int) + x.n - 1 + 1) = ((b + x.n : Nat) : Int) := by omega
   dsimp only
   rw [e, qlb all l (b + x.n) (fun a ha => h a (List.mem_cons_of_mem _ ha)) (fun j c hj => by
     have := hat (x.n + j) c (by
       show (x.nd b ++ (laid l (b + x.n)).2)[x.n + j]? = some c
       rw [List.getElem?_append_right (by rw [x.nd_len]; omega),x.nd_len,Nat.add_sub_cancel_left]; exact hj)
     rw [Nat.add_assoc]; exact this) (by omega)]
   show some _ = some (((b + (x.nd b ++ (laid l (b + x.n)).2).length : Nat)) : Int)
   rw [hln]
   congr 2
   omega
theorem q04 {all : List NodeC} {b : Nat} {x : Ex} (h : At all b x) (hb : b + x.n ≤ all.length) : all.drop b = x.nd b ++ all.drop (b + x.n) := by
 apply List.ext_getElem?
 intro j
 by_cases hj : j < x.n
 · rw [List.getElem?_append_left (by rw [x.nd_len]; exact hj), List.getElem?_drop]
   obtain ⟨c,hc⟩ : ∃ c,(x.nd b)[j]? = some c := ⟨_,List.getElem?_eq_getElem (by rw [x.nd_len]; exact hj)⟩
   rw [hc]
   exact h j c hc
 · rw [List.getElem?_append_right (by rw [x.nd_len]; omega), x.nd_len, List.getElem?_drop, List.getElem?_drop]
   congr 1
   omega
theorem qro (all : List NodeC) (hok : ∀ c ∈ all, (vr c).isSome = true) : ∀ (ls : List LetC) (b : Nat), b ≤ all.length → bgGo all ls b = some (all.length : Int) → ∃ l : List (ByteArray × Ex), qaq l ∧ ls = (laid l b).1 ∧ all.drop b = (laid l b).2
 | [], b, hb, h => by
   unfold bgGo at h
   have : b = all.length := by have := Option.some.inj h; omega
   subst this
   exact ⟨[],fun a ha => (by cases ha),rfl,(by rw [List.drop_length]; rfl)⟩
 | l :: ls, b, hb, h => by
   unfold bgGo at h
   split at h
   · rename_i hc
     obtain ⟨c1,c2,c3,c4⟩ := hc
     obtain ⟨b',x,k1,k2,k3,k4⟩ := qzk (fr := (b : Int)) (by omega) hok all.length l.root c3 (by rw [c4]; omega)
     have hbb : b' = b := by omega
     subst hbb
     have hxn := x.n_pos
     have e : l.root + 1 = ((b' + x.n : Nat) : Int) := by omega
     rw [e] at h
     obtain ⟨r,r1,r2,r3⟩ := qro all hok ls (b' + x.n) (by omega) h
     refine ⟨(l.name,x) :: r,fun a ha => ?_,?_,?_⟩
     · rcases List.mem_cons.1 ha with rfl | ha
       · exact ⟨c1,k2⟩
       · exact r1 a ha
     · show l :: ls = ⟨l.name, (b' : Int) + x.n - 1⟩ :: (laid r (b' + x.n)).1
       rw [← r2]
       obtain ⟨ln,lr⟩ := l
       change (b' : Int) + x.n - 1 = lr at k4
       rw [k4]
     · rw [q04 k3 (by omega),r3]; rfl
   · cases h
def qa7 (p : qx) : Bool := (za p.ins && decide (1 ≤ p.ins.length) && decide (p.ins.length ≤ 40)) && (za p.outs && decide (1 ≤ p.outs.length) && decide (p.outs.length ≤ 40)) && decide (p.lets.length ≤ 40) && decide (p.all.length ≤ 400) && p.all.all (fun c => (vr c).isSome) && (bgGo p.all p.lets 0 == some (p.all.length : Int)) && !qdw p
theorem qrp {p : qx} (h1 : p.all.all (fun c => (vr c).isSome) = true) (h2 : bgGo p.all p.lets 0 = some (p.all.length : Int)) : ∃ l,Shaped p l := by
 obtain ⟨l,k1,k2,k3⟩ := qro p.all (fun c hc => List.all_eq_true.1 h1 c hc) p.lets 0 (Nat.zero_le _) h2
 exact ⟨l,k2,by rw [List.drop_zero] at k3; exact k3,k1⟩
theorem q05 (p : qx) : qa7 p = (tZ p).isSome := by
 rw [Bool.eq_iff_iff]
 constructor
 · intro h
   unfold qa7 at h
   simp only [Bool.and_eq_true,decide_eq_true_eq,beq_iff_eq] at h
   obtain ⟨⟨⟨⟨⟨⟨⟨⟨a1,a2⟩,a3⟩,⟨b1,b2⟩,b3⟩,c1⟩,c2⟩,c3⟩,c4⟩,c5⟩ := h
   obtain ⟨l,hl⟩ := qrp c3 c4
   rw [qrl hl ⟨qcz.1 a1,a2⟩ ⟨qcz.1 b1,b2⟩]
   exact c5
 · intro h
   obtain ⟨l,hr⟩ := qex.1 h
   have hg := qlb p.all l 0 hr.ok (fun j c hj => by rw [hr.all,Nat.zero_add]; exact hj) (by rw [Nat.zero_add,← hr.all]; exact Nat.le_refl _)
   have hlo := qrl hr.toShaped ⟨hr.ins.1,hr.ins.2.1⟩ ⟨hr.outs.1,hr.outs.2.1⟩
   rw [h] at hlo
   have hll : p.lets.length = l.length := by rw [hr.lets,qb4]
   unfold qa7
   rw [← hlo,qcz.2 hr.ins.1,qcz.2 hr.outs.1]
   have hp : p.all.all (fun c => (vr c).isSome) = true := List.all_eq_true.2 fun c hc => qrn l 0 hr.ok c (by rw [← hr.all]; exact hc)
   rw [← hr.lets,← hr.all] at hg
   have hg' : bgGo p.all p.lets 0 = some (p.all.length : Int) := by rw [show (0 : Int) = ((0 : Nat) : Int) from rfl,hg,Nat.zero_add]
   rw [hp,hg']
   have := hr.ins.2
   have := hr.outs.2
   have := hr.few
   simp
   omega
theorem qrq (v : Value) (l : List ByteArray) (m : Int) {I : Hp} (h : Slc I 1 v (scs l)) : Fun prog 50 [v,.int .i64 m] I [] (fun r _ _ => r = .bool (za l && decide (m ≤ l.length) && decide (l.length ≤ 40))) := by
 have hl := jf l
 have hmx := h.most
 rw [hl] at hmx
 unfold maxLen at hmx
 intro w hw
 refine qv _ func50 rfl ntmps50 rfl ?_ hw;refine sR ?_;refine oV ?_;refine nU ?_;refine oV ?_;refine qw trivial rfl underlying25 rfl (h) ?_;iterate 2 refine oV ?_
 refine' oZ (fun hb11 => ?_) ?_;rotate_left
 ·
  have fb11 := hb11
  try simp only [bl] at fb11
  refine gV hb11 ?_;refine qw (wS rfl rfl hb11) rfl underlying25 rfl (h) ?_;refine gV hb11 ?_;refine oN ?_;exact qa rfl
 refine nT ?_;refine cC rfl (fun h1 => ?_) (fun h1 => ?_)
 ·
  have f1 := h1;try simp only [bl] at f1
  refine sR ?_;refine oV ?_;refine nF ?_;refine ret1 rfl rfl ?_;refine qg (congrArg Value.bool ?_)
  simp at h1
  rw [Bool.eq_iff_iff]
  simp
  omega
 have f1 := h1;try simp only [bl] at f1
 have hno : m ≤ l.length ∧ l.length ≤ 40 := by simp at h1; omega
 refine cK (tC (cS (sR ?_)));refine oV ?_;refine oN (tC (cB ?_));refine qu (ι := Nat) [0] (.cons rfl .nil) (fun x => l.length - x) (fun x E0 => (5,.int .i64 (x : Int)) :: E0) (fun x => St w [] I []) (fun x => x ≤ l.length ∧ l.all yk = (l.drop x).all yk) (0) (sC rfl (sC rfl sN)) (fun _ h => h) (⟨Nat.zero_le _,rfl⟩) ?_;rintro i ⟨hi,hF⟩
 try dsimp only
 refine cS (sR ?_);iterate 2 refine oV ?_
 refine qw trivial rfl underlying25 rfl (h) ?_;refine oV ?_;refine nT ?_;refine cC rfl (fun h2 => ?_) (fun h2 => ?_)
 ·
  have f2 := h2;try simp only [bl] at f2
  obtain ⟨s,hs⟩ : ∃ s,l[i]? = some s := ⟨l[i]'(by omega),List.getElem?_eq_getElem (by omega)⟩
  refine cK (tC (cS (cB (sR ?_))));iterate 2 refine oV ?_
  refine vk trivial rfl underlying25 sizeOf9 rfl (h) rfl (by omega) ?_;refine q8 trivial rfl isAgg9 rfl (zn h hs) ?_;refine oP trivial rfl call52 rfl (qko _) ?_;refine oV ?_;refine nS ?_;iterate 2 refine oV ?_
  refine nT ?_;refine cC rfl (fun h3 => ?_) (fun h3 => ?_)
  ·
   have f3 := h3;try simp only [bl] at f3
   refine sR ?_;refine oV ?_;refine oN (tC (cT (qd (tR (tR (qd (tR ?_)))))));refine ret1 rfl rfl ?_;refine qg (congrArg Value.bool ?_)
   unfold za
   rw [hF,qe0 hs,show yk s = false by simpa using h3]; rfl
  have f3 := h3;try simp only [bl] at f3
  refine cK (qe (tC (cR ?_)));refine oV ?_
  (refine qf trivial rfl rfl rfl ?_ ?_; (omega))
  refine oV ?_;refine oN ?_;exact qj (i + 1) (sC rfl (sC rfl sN)) (fun _ h => h) (by show l.length - (i + 1) < l.length - i; omega) ⟨by show i + 1 ≤ l.length; omega,by rw [hF,qe0 hs,show yk s = true by simpa using h3]; rfl⟩
 have f2 := h2;try simp only [bl] at f2
 have hin : i = l.length := by omega
 rw [hin,List.drop_length] at hF
 refine qq (qc (qc (qp rfl (tC (sR ?_)))));refine oV ?_;refine nE ?_;refine ret1 rfl rfl ?_;refine qg (congrArg Value.bool ?_)
 unfold za
 rw [hF]
 simp
 omega
theorem qe4 {b : Bool} {k : Nat} : (if b = true then some k else none).isSome = b := by cases b <;> rfl
theorem q06 (neg : Bool) (va vb : Value) (A B : List Nat) {I : Hp} (ha : Ws I va A) (hb : Ws I vb B) (hs : A.length ≤ 35184372088400) (hs2 : B.length ≤ 35184372088400) : Fun prog 39 [.agg #[.bool neg,va,vb]] I [] (fun v _ _ => ∃ b,v = .bool b ∧ (A.length ≤ 3000 → B.length ≤ 3000 → b = qbk neg A B)) := by
 by_cases h : A.length ≤ 3000 ∧ B.length ≤ 3000
 · exact qkt (qot neg _ _ _ _ ha hb h.1 h.2) fun v I' B' hv => ⟨_,hv,fun _ _ => rfl⟩
 · exact qkt (q02 neg _ _ _ _ ha hb hs hs2) fun v I' B' ⟨b,hv⟩ => ⟨b,hv,fun h1 h2 => absurd ⟨h1,h2⟩ h⟩
theorem q07 (o : qk) {I : Hp} (ho : o.ok I) (hf : o.c.few 35184372088400) : Fun prog 51 [.agg o.cells.toArray] I [] (fun v _ _ => ∃ b,v = .bool b ∧ (b = true → 0 ≤ o.c.kind ∧ o.c.kind ≤ 7) ∧ (o.c.few 3000 → b = (vr o.c).isSome)) := by
 have ha := ho.1
 have hb := ho.2
 have hb1 := ha.cells1
 have hb2 := hb.cells1
 obtain ⟨⟨kind,a,b,e,name,neg,n,d⟩,vn,vd⟩ := o
 change Ws I vn n at ha
 change Ws I vd d at hb
 have hq := qdf neg false vn vd (.slice none 0 0) (.slice none 0 0) n d [] [] ha hb (Ws.nil I) (Ws.nil I)
 have hz : (decide (neg = false) && decide (n = []) && decide (d = [])) = ve neg n d := by
   unfold ve
   cases neg <;> cases n <;> cases d <;> simp
 rw [hz] at hq
 have hsa := qfv (val n)
 have hsb := qfv (val d)
 unfold qk.cells
 intro w hw
 refine q9 _ func51 rfl ntmps51 rfl ?_ hw;refine sR ?_;refine qo trivial rfl rfl rfl (fun b1 => ?_);refine oV ?_;refine nS ?_;refine oF 5 underlying67 sizeOf48 ?_;refine oA isAgg48 sizeOf48 ?_;refine vg trivial rfl (zd) rfl .nil ?_;refine oQ call14 rfl hq ?_;refine oV ?_;refine oN (tC (cS (cB (sR ?_))));refine oF 0 underlying67 sizeOf3 ?_;refine oL isAgg3 ?_;iterate 2 refine oV ?_
 refine nT ?_;refine cC rfl (fun h1 => ?_) (fun h1 => ?_)
 ·
  have f1 := h1;try simp only [bl] at f1
  refine sR ?_;refine oF 4 underlying67 sizeOf9 ?_;refine oL isAgg9 ?_;refine oP trivial rfl call52 rfl (qko _) ?_;refine oV ?_;refine nS ?_;refine oV ?_;refine' oY (fun hb18 => ?_) ?_;rotate_left
  ·
   refine gV hb18 ?_;refine oN ?_;exact qa rfl
  refine' oY (fun hb21 => ?_) ?_;rotate_left
  ·
   have fb21 := hb21
   try simp only [bl] at fb21
   refine gF hb21 1 underlying67 sizeOf3 ?_;refine gL hb21 isAgg3 ?_;refine gV hb21 ?_;refine oN ?_;exact qa rfl
  refine' oY (fun hb26 => ?_) ?_;rotate_left
  ·
   have fb26 := hb26
   try simp only [bl] at fb26
   refine gF hb26 2 underlying67 sizeOf3 ?_;refine gL hb26 isAgg3 ?_;refine gV hb26 ?_;refine oN ?_;exact qa rfl
  refine' oY (fun hb31 => ?_) ?_;rotate_left
  ·
   have fb31 := hb31
   try simp only [bl] at fb31
   refine gF hb31 3 underlying67 sizeOf3 ?_;refine gL hb31 isAgg3 ?_;refine gV hb31 ?_;refine oN ?_;exact qa rfl
  refine oV ?_;refine oN (tC (cT (qd (tR ?_))));refine ret1 rfl rfl ?_;refine qg ⟨_,rfl,fun _ => (show 0 ≤ kind ∧ kind ≤ 7 by omega),fun _ => ?_⟩; rw [qqh (show kind = 0 by omega),qe4]; done
 have f1 := h1;try simp only [bl] at f1
 refine sR ?_;refine oF 0 underlying67 sizeOf3 ?_;refine oL isAgg3 ?_;iterate 2 refine oV ?_
 refine nT ?_;refine cC rfl (fun h2 => ?_) (fun h2 => ?_)
 ·
  have f2 := h2;try simp only [bl] at f2
  refine sR ?_;refine oF 5 underlying67 sizeOf48 ?_;refine oA isAgg48 sizeOf48 ?_;refine qff trivial rfl call39 rfl (q06 neg _ _ _ _ ha hb hf.1 hf.2) ?_;rintro _ ⟨rb,rfl,hrb⟩;refine oV ?_;refine nU ?_;iterate 2 refine oV ?_
  refine' oZ (fun hb45 => ?_) ?_;rotate_left
  ·
   have fb45 := hb45
   try simp only [bl] at fb45
   refine gF hb45 5 underlying67 sizeOf48 ?_;refine gF hb45 0 underlying48 sizeOf4 ?_;refine gL hb45 isAgg4 ?_;refine oN ?_;exact qa rfl
  refine' oZ (fun hb50 => ?_) ?_;rotate_left
  ·
   have fb50 := hb50
   try simp only [bl] at fb50
   refine gF hb50 4 underlying67 sizeOf9 ?_;refine gL hb50 isAgg9 ?_;refine gV hb50 ?_;refine oN ?_;exact qa rfl
  refine' oZ (fun hb55 => ?_) ?_;rotate_left
  ·
   have fb55 := hb55
   try simp only [bl] at fb55
   refine gF hb55 1 underlying67 sizeOf3 ?_;refine gL hb55 isAgg3 ?_;refine gV hb55 ?_;refine oN ?_;exact qa rfl
  refine' oZ (fun hb60 => ?_) ?_;rotate_left
  ·
   have fb60 := hb60
   try simp only [bl] at fb60
   refine gF hb60 2 underlying67 sizeOf3 ?_;refine gL hb60 isAgg3 ?_;refine gV hb60 ?_;refine oN ?_;exact qa rfl
  refine' oZ (fun hb65 => ?_) ?_;rotate_left
  ·
   have fb65 := hb65
   try simp only [bl] at fb65
   refine gF hb65 3 underlying67 sizeOf3 ?_;refine gL hb65 isAgg3 ?_;refine gV hb65 ?_;refine oN ?_;exact qa rfl
  refine nT ?_;refine cC rfl (fun h3 => ?_) (fun h3 => ?_)
  ·
   have f3 := h3;try simp only [bl] at f3
   refine sR ?_;refine oV ?_;refine oN (tC (cT (tR (qd (tR ?_)))));refine ret1 rfl rfl ?_;refine qg ⟨_,rfl,fun _ => (show 0 ≤ kind ∧ kind ≤ 7 by omega),fun hw => ?_⟩
   obtain rfl := hrb hw.1 hw.2
   rw [qkp (show kind = 1 by omega),qe4,← qb5]; unfold yf; dsimp only; symm; rw [Bool.eq_false_iff]; intro hh; simp only [Bool.and_eq_true,decide_eq_true_eq,beq_iff_eq,Bool.not_eq_true'] at hh; obtain ⟨⟨⟨⟨g1,⟨⟨g2,g3⟩,g4⟩,g5⟩,g6⟩,g7⟩,g8⟩ := hh; rcases f3 with ((((f3 | f3) | f3) | f3) | f3) | f3 <;> simp_all <;> done
  have f3 := h3;try simp only [bl] at f3
  refine kS ?_;refine oF 5 underlying67 sizeOf48 ?_;refine oF 1 underlying48 sizeOf46 ?_;refine oL isAgg46 ?_;refine oQ call40 rfl (qhh _ _ ha hf.1) ?_;refine qau trivial rfl underlying9 rfl ?_;refine oV ?_;refine' oY (fun hb76 => ?_) ?_;rotate_left
  ·
   have fb76 := hb76
   try simp only [bl] at fb76
   refine gF hb76 5 underlying67 sizeOf48 ?_;refine gF hb76 2 underlying48 sizeOf46 ?_;refine gL hb76 isAgg46 ?_;refine yy (wS rfl rfl hb76) rfl call40 rfl (qhh _ _ hb hf.2) ?_;refine qau (wS rfl rfl hb76) rfl underlying9 rfl ?_;refine gV hb76 ?_;refine oN ?_;exact qa rfl
  refine oV ?_;refine oN (tC (cT (qd (tR ?_))));refine ret1 rfl rfl ?_;refine qg ⟨_,rfl,fun _ => (show 0 ≤ kind ∧ kind ≤ 7 by omega),fun hw => ?_⟩
  obtain rfl := hrb hw.1 hw.2
  have hda := qda ha.wds hw.1
  have hdb := qda hb.wds hw.2
  rw [qkp (show kind = 1 by omega),qe4,← qb5]; unfold yf; dsimp only; obtain ⟨⟨⟨⟨⟨g1,g2⟩,g3⟩,g4⟩,g5⟩,g6⟩ := f3; rw [g1,g2,g3,g4,g5,g6,hsa,hsb,Bool.eq_iff_iff]; simp; omega
 have f2 := h2;try simp only [bl] at f2
 refine sR ?_;refine oF 0 underlying67 sizeOf3 ?_;refine oL isAgg3 ?_;refine oV ?_;refine' oY (fun hb88 => ?_) ?_;rotate_left
 ·
  have fb88 := hb88
  try simp only [bl] at fb88
  refine gF hb88 0 underlying67 sizeOf3 ?_;refine gL hb88 isAgg3 ?_;refine gV hb88 ?_;refine oN ?_;exact qa rfl
 refine oV ?_;refine nT ?_;refine cC rfl (fun h4 => ?_) (fun h4 => ?_)
 ·
  have f4 := h4;try simp only [bl] at f4
  refine sR ?_;refine oF 4 underlying67 sizeOf9 ?_;refine oL isAgg9 ?_;refine oV ?_;refine' oY (fun hb96 => ?_) ?_;rotate_left
  ·
   refine gV hb96 ?_;refine oN ?_;exact qa rfl
  refine' oY (fun hb99 => ?_) ?_;rotate_left
  ·
   have fb99 := hb99
   try simp only [bl] at fb99
   refine gF hb99 3 underlying67 sizeOf3 ?_;refine gL hb99 isAgg3 ?_;refine gV hb99 ?_;refine oN ?_;exact qa rfl
  refine oV ?_;refine oN (tC (cT (qd (tR ?_))));refine ret1 rfl rfl ?_;refine qg ⟨_,rfl,fun _ => (show 0 ≤ kind ∧ kind ≤ 7 by omega),fun _ => ?_⟩; rw [qqi (show 2 ≤ kind ∧ kind ≤ 5 by omega),qe4,qb5]; done
 have f4 := h4;try simp only [bl] at f4
 refine sR ?_;refine oF 0 underlying67 sizeOf3 ?_;refine oL isAgg3 ?_;iterate 2 refine oV ?_
 refine nT ?_;refine cC rfl (fun h5 => ?_) (fun h5 => ?_)
 ·
  have f5 := h5;try simp only [bl] at f5
  refine sR ?_;refine oF 4 underlying67 sizeOf9 ?_;refine oL isAgg9 ?_;refine oV ?_;refine' oY (fun hb111 => ?_) ?_;rotate_left
  ·
   refine gV hb111 ?_;refine oN ?_;exact qa rfl
  refine' oY (fun hb114 => ?_) ?_;rotate_left
  ·
   have fb114 := hb114
   try simp only [bl] at fb114
   refine gF hb114 2 underlying67 sizeOf3 ?_;refine gL hb114 isAgg3 ?_;refine gV hb114 ?_;refine oN ?_;exact qa rfl
  refine' oY (fun hb119 => ?_) ?_;rotate_left
  ·
   have fb119 := hb119
   try simp only [bl] at fb119
   refine gF hb119 3 underlying67 sizeOf3 ?_;refine gL hb119 isAgg3 ?_;refine gV hb119 ?_;refine oN ?_;exact qa rfl
  refine oV ?_;refine oN (tC (cT (qd (tR ?_))));refine ret1 rfl rfl ?_;refine qg ⟨_,rfl,fun _ => (show 0 ≤ kind ∧ kind ≤ 7 by omega),fun _ => ?_⟩; rw [qqj (show kind = 6 by omega),qe4,qb5]; done
 have f5 := h5;try simp only [bl] at f5
 refine sR ?_;refine oF 0 underlying67 sizeOf3 ?_;refine oL isAgg3 ?_;iterate 2 refine oV ?_
 refine nT ?_;refine cC rfl (fun h6 => ?_) (fun h6 => ?_)
 ·
  have f6 := h6;try simp only [bl] at f6
  refine sR ?_;refine oF 4 underlying67 sizeOf9 ?_;refine oL isAgg9 ?_;refine oV ?_;refine' oY (fun hb131 => ?_) ?_;rotate_left
  ·
   refine gV hb131 ?_;refine oN ?_;exact qa rfl
  refine' oY (fun hb134 => ?_) ?_;rotate_left
  ·
   have fb134 := hb134
   try simp only [bl] at fb134
   refine gF hb134 2 underlying67 sizeOf3 ?_;refine gL hb134 isAgg3 ?_;refine gV hb134 ?_;refine oN ?_;exact qa rfl
  refine' oY (fun hb139 => ?_) ?_;rotate_left
  ·
   have fb139 := hb139
   try simp only [bl] at fb139
   refine gF hb139 3 underlying67 sizeOf3 ?_;refine gL hb139 isAgg3 ?_;refine gV hb139 ?_;refine oN ?_;exact qa rfl
  refine' oY (fun hb144 => ?_) ?_;rotate_left
  ·
   have fb144 := hb144
   try simp only [bl] at fb144
   refine gF hb144 3 underlying67 sizeOf3 ?_;refine gL hb144 isAgg3 ?_;refine gV hb144 ?_;refine oN ?_;exact qa rfl
  refine oV ?_;refine oN (tC (cT (qd (tR ?_))));refine ret1 rfl rfl ?_;refine qg ⟨_,rfl,fun _ => (show 0 ≤ kind ∧ kind ≤ 7 by omega),fun _ => ?_⟩; rw [qqk (show kind = 7 by omega),qe4,qb5]; done
 have f6 := h6;try simp only [bl] at f6
 refine cK (qe (tC (sR ?_)));refine oV ?_;refine nE ?_;refine ret1 rfl rfl ?_;refine qg ⟨_,rfl,fun h => (by cases h),fun _ => ?_⟩; rw [qql (show kind < 0 ∨ 7 < kind by omega)]; rfl
theorem q08 (va : Value) (ns : List qk) (fr : Int) {I : Hp} (hsa : Slc I 8 va (nds ns)) (hok : ∀ o ∈ ns,o.ok I) (hkn : ∀ c ∈ ns.map qk.c,0 ≤ c.kind ∧ c.kind ≤ 7) (hfr : 0 ≤ fr ∧ fr ≤ 1000000) (hn : ns.length ≤ 100000) : ∀ (f : Nat) (i : Int),i < ns.length → i < fr + f → -1 ≤ i → Fun prog 53 [va,.int .i64 fr,.int .i64 i] I [] (fun v _ _ => v = .int .i64 (begZ (ns.map qk.c) fr f i)) := by
 intro f
 have hln := z4 ns
 induction f with
 | zero =>
   intro i hi hf h1
   have hz := qh3 (l := ns.map qk.c) 0 (show i < fr by omega)
   intro w hw
   refine j5 _ func53 rfl ntmps53 rfl ?_ hw;refine sR ?_;refine oV ?_;refine nU ?_;iterate 3 refine oV ?_
   refine nT ?_;refine cC rfl (fun h1 => ?_) (fun h1 => ?_)
   ·
    have f1 := h1;try simp only [bl] at f1
    refine sR ?_;refine oV ?_
    (refine vy trivial rfl rfl rfl ?_ ?_; (omega))
    refine oV ?_;refine nF ?_;refine ret1 rfl rfl ?_;refine qg (congrArg (Value.int .i64) hz.symm)
   have f1 := h1;try simp only [bl] at f1
   exfalso; omega
 | succ f ih =>
   intro i hi hf h1
   by_cases hlow : i < fr
   · have hz := qh3 (l := ns.map qk.c) (f + 1) hlow
     intro w hw
     refine j5 _ func53 rfl ntmps53 rfl ?_ hw;refine sR ?_;refine oV ?_;refine nU ?_;iterate 3 refine oV ?_
     refine nT ?_;refine cC rfl (fun h1 => ?_) (fun h1 => ?_)
     ·
      have f1 := h1;try simp only [bl] at f1
      refine sR ?_;refine oV ?_
      (refine vy trivial rfl rfl rfl ?_ ?_; (omega))
      refine oV ?_;refine nF ?_;refine ret1 rfl rfl ?_;refine qg (congrArg (Value.int .i64) hz.symm)
     have f1 := h1;try simp only [bl] at f1
     exfalso; omega
   · obtain ⟨k, rfl⟩ : ∃ k : Nat, i = k := ⟨i.toNat, by omega⟩
     obtain ⟨o,ho⟩ : ∃ o,ns[k]? = some o := ⟨ns[k]'(by omega),List.getElem?_eq_getElem (by omega)⟩
     have hoc : (ns.map qk.c)[((k : Nat) : Int).toNat]? = some o.c := by rw [Int.toNat_natCast,List.getElem?_map,ho]; rfl
     have hom := List.mem_of_getElem? ho
     have hw1 : Ws I o.vn o.c.n := (hok o hom).1
     have hw2 : Ws I o.vd o.c.d := (hok o hom).2
     have hz := qla (f := f) hlow hoc
     have ra := qrm (l := ns.map qk.c) (fr := fr) f o.c.a
     have rb := qrm (l := ns.map qk.c) (fr := fr) f o.c.b
     have hkd : 0 ≤ o.c.kind ∧ o.c.kind ≤ 7 := hkn o.c (List.mem_map_of_mem hom)
     intro w hw
     refine j5 _ func53 rfl ntmps53 rfl ?_ hw;refine sR ?_;refine oV ?_;refine nU ?_;iterate 3 refine oV ?_
     refine nT ?_;refine cC rfl (fun h1 => ?_) (fun h1 => ?_)
     ·
      have f1 := h1;try simp only [bl] at f1
      exfalso; omega
     have f1 := h1;try simp only [bl] at f1
     refine kS ?_;iterate 2 refine oV ?_
     refine vk trivial rfl underlying27 sizeOf67 rfl (hsa) rfl (by omega) ?_;refine y7 trivial rfl isAgg67 sizeOf67 rfl rfl (qa6 hsa ho) ?_;refine qh trivial rfl zeroValue67 rfl (fun b7 => ?_);refine oS sizeOf67 ?_;refine oN (tC (cS (cB (sR ?_))));refine oF 0 underlying67 sizeOf3 ?_;refine oL isAgg3 ?_;refine oV ?_;refine' oZ (fun hb22 => ?_) ?_;rotate_left
     ·
      have fb22 := hb22
      try simp only [bl] at fb22
      refine gF hb22 0 underlying67 sizeOf3 ?_;refine gL hb22 isAgg3 ?_;refine gV hb22 ?_;refine oN ?_;exact qa rfl
     refine oV ?_;refine nT ?_;refine cC rfl (fun h2 => ?_) (fun h2 => ?_)
     ·
      have f2 := h2;try simp only [bl] at f2
      refine sR ?_;iterate 2 refine oV ?_
      refine oN (tC (cT (qd (tR ?_))));refine ret1 rfl rfl ?_;refine qg (congrArg (Value.int .i64) ?_); rw [hz,if_pos (by omega)]
     have f2 := h2;try simp only [bl] at f2
     refine sR ?_;refine oF 0 underlying67 sizeOf3 ?_;refine oL isAgg3 ?_;refine oV ?_;refine' oZ (fun hb32 => ?_) ?_;rotate_left
     ·
      have fb32 := hb32
      try simp only [bl] at fb32
      refine gF hb32 0 underlying67 sizeOf3 ?_;refine gL hb32 isAgg3 ?_;refine gV hb32 ?_;refine oN ?_;exact qa rfl
     refine oV ?_;refine nT ?_;refine cC rfl (fun h3 => ?_) (fun h3 => ?_)
     ·
      have f3 := h3;try simp only [bl] at f3
      refine cS (sR ?_);refine oF 1 underlying67 sizeOf3 ?_;refine oL isAgg3 ?_;refine oV ?_
      (refine vy trivial rfl rfl rfl ?_ ?_; (omega))
      refine oV ?_;refine nT ?_;refine cC rfl (fun h4 => ?_) (fun h4 => ?_)
      ·
       have f4 := h4;try simp only [bl] at f4
       refine sR ?_;refine oV ?_
       (refine vy trivial rfl rfl rfl ?_ ?_; (omega))
       refine oV ?_;refine oN (tC (cT (tR (qd (tR ?_)))));refine ret1 rfl rfl ?_;refine qg (congrArg (Value.int .i64) ?_); rw [hz,if_neg (by omega),if_pos (by omega),if_pos (by omega)]
      have f4 := h4;try simp only [bl] at f4
      refine kS ?_;iterate 2 refine oV ?_
      refine oF 1 underlying67 sizeOf3 ?_;refine oL isAgg3 ?_;refine oQ call53 rfl (ih o.c.a (by omega) (by omega) (by omega)) ?_;refine oV ?_;refine oN (tC (cT (qd (tR ?_))));refine ret1 rfl rfl ?_;refine qg (congrArg (Value.int .i64) ?_); rw [hz,if_neg (by omega),if_pos (by omega),if_neg (by omega)]
     have f3 := h3;try simp only [bl] at f3
     refine cK (qe (tC (cS (sR ?_))));refine oF 2 underlying67 sizeOf3 ?_;refine oL isAgg3 ?_;refine oV ?_
     (refine vy trivial rfl rfl rfl ?_ ?_; (omega))
     refine oV ?_;refine nT ?_;refine cC rfl (fun h5 => ?_) (fun h5 => ?_)
     ·
      have f5 := h5;try simp only [bl] at f5
      refine sR ?_;refine oV ?_
      (refine vy trivial rfl rfl rfl ?_ ?_; (omega))
      refine oV ?_;refine nF ?_;refine ret1 rfl rfl ?_;refine qg (congrArg (Value.int .i64) ?_); rw [hz,if_neg (by omega),if_neg (by omega),if_pos (by omega)]
     have f5 := h5;try simp only [bl] at f5
     refine kS ?_;iterate 2 refine oV ?_
     refine oF 2 underlying67 sizeOf3 ?_;refine oL isAgg3 ?_;refine oQ call53 rfl (ih o.c.b (by omega) (by omega) (by omega)) ?_;refine oV ?_;refine nU ?_;iterate 3 refine oV ?_
     refine' oZ (fun hb64 => ?_) ?_;rotate_left
     ·
      have fb64 := hb64
      try simp only [bl] at fb64
      refine gF hb64 1 underlying67 sizeOf3 ?_;refine gL hb64 isAgg3 ?_;refine gV hb64 ?_
      (refine vy (wS rfl rfl hb64) rfl rfl rfl ?_ ?_; (omega))
      refine gV hb64 ?_;refine oN ?_;exact qa rfl
     refine nT ?_;refine cC rfl (fun h6 => ?_) (fun h6 => ?_)
     ·
      have f6 := h6;try simp only [bl] at f6
      refine sR ?_;refine oV ?_
      (refine vy trivial rfl rfl rfl ?_ ?_; (omega))
      refine oV ?_;refine nF ?_;refine ret1 rfl rfl ?_;refine qg (congrArg (Value.int .i64) ?_); rw [hz,if_neg (by omega),if_neg (by omega),if_neg (by omega),if_pos (by omega)]
     have f6 := h6;try simp only [bl] at f6
     refine kS ?_;iterate 2 refine oV ?_
     refine oF 1 underlying67 sizeOf3 ?_;refine oL isAgg3 ?_;refine oQ call53 rfl (ih o.c.a (by omega) (by omega) (by omega)) ?_;refine oV ?_;refine nE ?_;refine ret1 rfl rfl ?_;refine qg (congrArg (Value.int .i64) ?_); rw [hz,if_neg (by omega),if_neg (by omega),if_neg (by omega),if_neg (by omega)]
def awX : ByteArray := ⟨#[120]⟩
theorem q09 : yk awX = true := by kernel_rfl
theorem isT_no {x : Tok} {k : Int} {t : ByteArray} (h : x.kind ≠ k) : isT x k t = false := by simp [isT,h]
theorem q1a (all : List NodeC) (fr : Int) : bgGo all [] fr = some fr := rfl
theorem qe5 (all : List NodeC) (l : LetC) (ls : List LetC) (fr : Int) : bgGo all (l :: ls) fr = if yk l.name = true ∧ fr ≤ l.root ∧ l.root < all.length ∧ begZ all fr all.length l.root = fr then bgGo all ls (l.root + 1) else none := rfl
def blN (c : NodeC) : NodeC := if c.kind ≤ 1 then refN ⟨#[120]⟩ else ⟨c.kind,c.a,if c.kind ≤ 5 then c.b else 0,0,⟨#[]⟩,false,[],[]⟩
theorem qrr {c : NodeC} (h : c.kind ≤ 1) : blN c = refN ⟨#[120]⟩ := if_pos h
theorem qlc {c : NodeC} (h : ¬ c.kind ≤ 1) : blN c = ⟨c.kind,c.a,if c.kind ≤ 5 then c.b else 0,0,⟨#[]⟩,false,[],[]⟩ := if_neg h
theorem q1b {c : NodeC} (h0 : 0 ≤ c.kind) (h7 : c.kind ≤ 7) : (vr (blN c)).isSome = true := by
 by_cases h1 : c.kind ≤ 1
 · rw [qrr h1,qke (t := ⟨#[120]⟩) q09]; rfl
 · rw [qlc h1]
   by_cases h5 : c.kind ≤ 5
   · rw [if_pos h5]
     have := qkh (k := c.kind) (a := c.a) (b := c.b) ⟨by omega,h5⟩
     unfold binN at this
     rw [this]; rfl
   · rw [if_neg h5]
     by_cases h6 : c.kind = 6
     · have := qkf c.a
       unfold negN at this
       rw [h6,this]; rfl
     · have := qkg (a := c.a) (e := 0) (by decide)
       unfold powN at this
       rw [show c.kind = 7 by omega,this]; rfl
theorem q1c {l : List NodeC} {fr : Int} (hk : ∀ c ∈ l,0 ≤ c.kind ∧ c.kind ≤ 7) : ∀ (f : Nat) (i : Int),begZ (l.map blN) fr f i = begZ l fr f i := by
 intro f
 induction f with
 | zero => intro i; rfl
 | succ f ih =>
   intro i
   by_cases hi : i < fr
   · rw [qh3 _ hi,qh3 _ hi]
   · cases hc : l[i.toNat]? with
     | none =>
       have hm : (l.map blN)[i.toNat]? = none := by rw [List.getElem?_map,hc]; rfl
       unfold begZ
       rw [if_neg hi,if_neg hi,hm,hc]
     | some c =>
       have hm : (l.map blN)[i.toNat]? = some (blN c) := by rw [List.getElem?_map,hc]; rfl
       obtain ⟨k0,k7⟩ := hk c (List.mem_of_getElem? hc)
       rw [qla hi hm,qla hi hc]
       simp only [ih]
       by_cases h1 : c.kind ≤ 1
       · rw [qrr h1,if_pos (show (refN ⟨#[120]⟩).kind = 0 ∨ _ from Or.inl rfl),if_pos (by omega)]
       · rw [qlc h1]
         dsimp only
         by_cases h5 : c.kind ≤ 5
         · rw [if_pos h5]
         · have e01 : ¬ (c.kind = 0 ∨ c.kind = 1) := by omega
           have e67 : c.kind = 6 ∨ c.kind = 7 := by omega
           simp only [if_neg e01,if_pos e67]
theorem q1d {all : List NodeC} (hk : ∀ c ∈ all,0 ≤ c.kind ∧ c.kind ≤ 7) : ∀ (ls : List LetC) (fr : Int),bgGo (all.map blN) ls fr = bgGo all ls fr := by
 intro ls
 induction ls with
 | nil => intro fr; rfl
 | cons l ls ih => intro fr; rw [qe5,qe5,ih,List.length_map,q1c hk]
theorem q1e {all : List NodeC} {ls : List LetC} (hk : ∀ c ∈ all,0 ≤ c.kind ∧ c.kind ≤ 7) (h : bgGo all ls 0 = some (all.length : Int)) : LowN all := by
 have hb : bgGo (all.map blN) ls 0 = some ((all.map blN).length : Int) := by rw [q1d hk,List.length_map]; exact h
 obtain ⟨l, hl⟩ := qrp (p := ⟨[], ls, [], all.map blN⟩) (List.all_eq_true.2 fun c hc => by
   obtain ⟨c',hc',rfl⟩ := List.mem_map.1 hc
   exact q1b (hk c' hc').1 (hk c' hc').2) hb
 have hlow := qrg hl
 intro i c hc h1
 have := hlow i (blN c) (by show (all.map blN)[i]? = _; rw [List.getElem?_map,hc]; rfl)
 rw [qlc (by omega)] at this
 have h2 := this h1
 dsimp only at h2
 refine ⟨h2.1,h2.2.1,fun h5 => ?_⟩
 have h3 := h2.2.2 h5
 rw [if_pos h5] at h3
 exact h3
theorem q1f (vi vl vo va : Value) (p : qx) (ns : List qk) {I : Hp} (hp : y5 I vi vl vo va p ns) (hf : ∀ o ∈ ns, o.c.few 35184372088400) :
   Fun prog 36 [.agg #[vi,vl,vo,va]] I [] (fun v _ _ => ∃ b,v = .bool b ∧ ((∀ o ∈ ns,o.c.few 3000) → b = qa7 p)) := by
 have hsi := hp.si
 have hsl := hp.sl
 have hso := hp.so
 have hsa := hp.sa
 have hll : (p.lets.map LetC.cells).length = p.lets.length := List.length_map _
 have hla := z4 ns
 have hal : p.all.length = ns.length := by rw [← hp.eq,List.length_map]
 have hm1 := hsa.most
 unfold maxLen at hm1
 intro w hw
 refine q9 _ func36 rfl ntmps36 rfl ?_ hw;refine sR ?_;refine qo trivial rfl rfl rfl (fun b1 => ?_);refine oV ?_;refine nS ?_;refine oF 0 underlying29 sizeOf25 ?_;refine oL isAgg25 ?_;refine oQ call50 rfl (qrq vi p.ins 1 hsi) ?_;refine oV ?_;refine nS ?_;refine oF 2 underlying29 sizeOf25 ?_;refine oL isAgg25 ?_;refine oQ call50 rfl (qrq vo p.outs 1 hso) ?_;refine oV ?_;refine nU ?_;iterate 2 refine oV ?_
 refine' oZ (fun hb20 => ?_) ?_;rotate_left
 ·
  have fb20 := hb20
  try simp only [bl] at fb20
  iterate 2 refine gV hb20 ?_
  refine oN ?_;exact qa rfl
 refine' oZ (fun hb24 => ?_) ?_;rotate_left
 ·
  have fb24 := hb24
  try simp only [bl] at fb24
  refine gF hb24 1 underlying29 sizeOf26 ?_;refine gL hb24 isAgg26 ?_;refine qw (wS rfl rfl hb24) rfl underlying26 rfl (hsl) ?_;refine gV hb24 ?_;refine oN ?_;exact qa rfl
 refine' oZ (fun hb30 => ?_) ?_;rotate_left
 ·
  have fb30 := hb30
  try simp only [bl] at fb30
  refine gF hb30 3 underlying29 sizeOf27 ?_;refine gL hb30 isAgg27 ?_;refine qw (wS rfl rfl hb30) rfl underlying27 rfl (hsa) ?_;refine gV hb30 ?_;refine oN ?_;exact qa rfl
 refine nT ?_;refine cC rfl (fun h1 => ?_) (fun h1 => ?_)
 ·
  have f1 := h1;try simp only [bl] at f1
  refine sR ?_;refine oV ?_;refine nF ?_;refine ret1 rfl rfl ?_;refine qg ⟨_,rfl,fun hw => ?_⟩;refine Eq.symm (Bool.eq_false_iff.2 fun hh => ?_)
  unfold qa7 at hh
  simp only [Bool.and_eq_true,decide_eq_true_eq,beq_iff_eq] at hh
  obtain ⟨⟨⟨⟨⟨⟨⟨⟨a1,a2⟩,a3⟩,⟨b1,b2⟩,b3⟩,c1⟩,c2⟩,c3⟩,c4⟩,c5⟩ := hh
  simp [a1,b1] at h1
  omega
 have f1 := h1;try simp only [bl] at f1
 have hsz : (za p.ins = true ∧ 1 ≤ p.ins.length ∧ p.ins.length ≤ 40) ∧ (za p.outs = true ∧ 1 ≤ p.outs.length ∧ p.outs.length ≤ 40) ∧ p.lets.length ≤ 40 ∧ p.all.length ≤ 400 := by
   obtain ⟨⟨⟨⟨⟨a1,a2⟩,a3⟩,⟨b1,b2⟩,b3⟩,c1⟩,c2⟩ := f1
   exact ⟨⟨a1,by omega,a3⟩,⟨b1,by omega,b3⟩,by omega,by omega⟩
 refine cK (tC (cS (sR ?_)));refine oV ?_;refine oN (tC (cB ?_));refine qu (ι := Nat) [1] (.cons rfl .nil) (fun i => ns.length - i) (fun i E0 => (5,.int .i64 (i : Nat)) :: E0) (fun i => St w [] I [.box b1 (.cells #[vi,vl,vo,va] 29 (0,0))]) (fun i => i ≤ ns.length ∧ (∀ c ∈ p.all.take i,0 ≤ c.kind ∧ c.kind ≤ 7) ∧ ((∀ o ∈ ns,o.c.few 3000) → p.all.all (fun c => (vr c).isSome) = (p.all.drop i).all (fun c => (vr c).isSome))) (0) (sC rfl (sC rfl sN)) (fun _ h => h) (⟨Nat.zero_le _,(fun c hc => by cases hc),fun _ => rfl⟩) ?_;rintro i ⟨hi,hkd,hall⟩
 try dsimp only
 refine cS (sR ?_);refine oV ?_;refine oF 3 underlying29 sizeOf27 ?_;refine oL isAgg27 ?_;refine qw trivial rfl underlying27 rfl (hsa) ?_;refine oV ?_;refine nT ?_;refine cC rfl (fun h2 => ?_) (fun h2 => ?_)
 ·
  have f2 := h2;try simp only [bl] at f2
  obtain ⟨o,ho⟩ : ∃ o,ns[i]? = some o := ⟨ns[i]'(by omega),List.getElem?_eq_getElem (by omega)⟩
  have hom := List.mem_of_getElem? ho
  have hoc : p.all[i]? = some o.c := by rw [← hp.eq,List.getElem?_map,ho]; rfl
  have hw1 : Ws I o.vn o.c.n := (hp.ok o hom).1
  have hw2 : Ws I o.vd o.c.d := (hp.ok o hom).2
  refine cK (tC (cS (cB (sR ?_))));refine oF 3 underlying29 sizeOf27 ?_;refine oL isAgg27 ?_;refine oV ?_;refine vk trivial rfl underlying27 sizeOf67 rfl (hsa) rfl (by omega) ?_;refine y7 trivial rfl isAgg67 sizeOf67 rfl rfl (qa6 hsa ho) ?_;refine qff trivial rfl call51 rfl (q07 o (hp.ok o hom) (hf o hom)) ?_;rintro _ ⟨rb,rfl,hrb,hrw⟩;refine oV ?_;refine nS ?_;iterate 2 refine oV ?_
  refine nT ?_;refine cC rfl (fun h3 => ?_) (fun h3 => ?_)
  ·
   have f3 := h3;try simp only [bl] at f3
   refine sR ?_;refine oV ?_;refine oN (tC (cT (qd (tR (tR (qd (tR ?_)))))));refine ret1 rfl rfl ?_;refine qg ⟨_,rfl,fun hw => ?_⟩;refine Eq.symm (Bool.eq_false_iff.2 fun hh => ?_)
   unfold qa7 at hh
   simp only [Bool.and_eq_true] at hh
   have h9 := hh.1.1.2
   rw [hall hw,qe0 (p := fun c => (vr c).isSome) hoc,← hrw (hw o hom),show rb = false by simpa using h3] at h9
   cases h9
  have f3 := h3;try simp only [bl] at f3
  refine cK (qe (tC (cR ?_)));refine oV ?_
  (refine qf trivial rfl rfl rfl ?_ ?_; (omega))
  refine oV ?_;refine oN ?_
  exact qj (i + 1) (sC rfl (sC rfl sN)) (fun _ h => h) (by show ns.length - (i + 1) < ns.length - i; omega) ⟨by show i + 1 ≤ ns.length; omega, fun c hc => by
    rw [List.take_add_one,hoc] at hc
    rcases List.mem_append.1 hc with hc | hc
    · exact hkd c hc
    · rw [List.mem_singleton.1 hc]; exact hrb (by simpa using h3),fun hw => by rw [hall hw,qe0 (p := fun c => (vr c).isSome) hoc,← hrw (hw o hom),show rb = true by simpa using h3]; rfl⟩
 have f2 := h2;try simp only [bl] at f2
 have hin : i = ns.length := by omega
 have hall1 : (∀ o ∈ ns,o.c.few 3000) → p.all.all (fun c => (vr c).isSome) = true := fun hw => by rw [hall hw,hin,← hal,List.drop_length]; rfl
 have hkn : ∀ c ∈ p.all,0 ≤ c.kind ∧ c.kind ≤ 7 := fun c hc => hkd c (by rw [hin,← hal,List.take_length]; exact hc)
 have hkm : ∀ c ∈ ns.map qk.c,0 ≤ c.kind ∧ c.kind ≤ 7 := by rw [hp.eq]; exact hkn
 refine qq (qc (qc (qp rfl (tC (sR ?_)))));refine oV ?_;refine nU ?_;refine oV ?_;refine oN (tC (cB ?_));refine qu (ι := Nat × Int) [1] (.cons rfl .nil) (fun x => p.lets.length - x.1) (fun x E0 => (7,.int .i64 x.2) :: (8,.int .i64 (x.1 : Nat)) :: E0) (fun x => St w [] I [.box b1 (.cells #[vi,vl,vo,va] 29 (0,0))]) (fun x => x.1 ≤ p.lets.length ∧ 0 ≤ x.2 ∧ x.2 ≤ ns.length ∧ bgGo p.all p.lets 0 = bgGo p.all (p.lets.drop x.1) x.2) ((0,0)) (sC rfl (sC rfl (sC rfl sN))) (fun _ h => h) (⟨Nat.zero_le _,Int.le_refl _,by omega,rfl⟩) ?_;rintro ⟨j,fr⟩ ⟨hj,hfr0,hfr1,hgo⟩
 try dsimp only
 refine cS (sR ?_);refine oV ?_;refine oF 1 underlying29 sizeOf26 ?_;refine oL isAgg26 ?_;refine qw trivial rfl underlying26 rfl (hsl) ?_;refine oV ?_;refine nT ?_;refine cC rfl (fun h4 => ?_) (fun h4 => ?_)
 ·
  have f4 := h4;try simp only [bl] at f4
  obtain ⟨c,hc⟩ : ∃ c,p.lets[j]? = some c := ⟨p.lets[j]'(by omega),List.getElem?_eq_getElem (by omega)⟩
  have hdr : p.lets.drop j = c :: p.lets.drop (j + 1) := by rw [List.drop_eq_getElem_cons (List.getElem?_eq_some_iff.1 hc).1,(List.getElem?_eq_some_iff.1 hc).2]
  rw [hdr,qe5] at hgo
  refine cK (tC (cS (cB (sR ?_))));refine oF 1 underlying29 sizeOf26 ?_;refine oL isAgg26 ?_;refine oV ?_;refine vk trivial rfl underlying26 sizeOf72 rfl (hsl) rfl (by omega) ?_;refine oF 1 underlying72 sizeOf3 ?_;refine q8 trivial rfl isAgg3 rfl (qbq hsl hc 1 _ rfl) ?_;refine oV ?_;refine nS ?_;refine oF 1 underlying29 sizeOf26 ?_;refine oL isAgg26 ?_;refine oV ?_;refine vk trivial rfl underlying26 sizeOf72 rfl (hsl) rfl (by omega) ?_;refine oF 0 underlying72 sizeOf9 ?_;refine q8 trivial rfl isAgg9 rfl (qbq hsl hc 0 _ rfl) ?_;refine oP trivial rfl call52 rfl (qko _) ?_;refine oV ?_;refine nU ?_;iterate 2 refine oV ?_
  refine' oZ (fun hb73 => ?_) ?_;rotate_left
  ·
   iterate 3 refine gV hb73 ?_
   refine oN ?_;exact qa rfl
  refine' oZ (fun hb78 => ?_) ?_;rotate_left
  ·
   have fb78 := hb78
   try simp only [bl] at fb78
   refine gV hb78 ?_;refine gF hb78 3 underlying29 sizeOf27 ?_;refine gL hb78 isAgg27 ?_;refine qw (wS rfl rfl hb78) rfl underlying27 rfl (hsa) ?_;refine gV hb78 ?_;refine oN ?_;exact qa rfl
  refine nT ?_;refine cC rfl (fun h5 => ?_) (fun h5 => ?_)
  ·
   have f5 := h5;try simp only [bl] at f5
   refine sR ?_;refine oV ?_;refine oN (tC (cT (tR (qd (tR (tR (qd (tR ?_))))))));refine ret1 rfl rfl ?_;refine qg ⟨_,rfl,fun hw => ?_⟩
   rw [if_neg (by rintro ⟨g1,g2,g3,g4⟩; simp [g1] at h5; omega)] at hgo
   unfold qa7
   rw [hgo]
   simp
  have f5 := h5;try simp only [bl] at f5
  refine cK (tC (cS (sR ?_)));refine oF 3 underlying29 sizeOf27 ?_;refine oL isAgg27 ?_;iterate 2 refine oV ?_
  refine oQ call53 rfl (q08 va ns fr hsa hp.ok hkm (by omega) (by omega) p.all.length c.root (by omega) (by omega) (by omega)) ?_;iterate 2 refine oV ?_
  refine nT ?_;refine cC rfl (fun h6 => ?_) (fun h6 => ?_)
  ·
   have f6 := h6;try simp only [bl] at f6
   refine sR ?_;refine oV ?_;refine oN (tC (cT (tR (qd (tR (tR (qd (tR ?_))))))));refine ret1 rfl rfl ?_;refine qg ⟨_,rfl,fun hw => ?_⟩
   rw [if_neg (by rintro ⟨g1,g2,g3,g4⟩; rw [hp.eq] at f6; exact f6 g4)] at hgo
   unfold qa7
   rw [hgo]
   simp
  have f6 := h6;try simp only [bl] at f6
  refine cK (tC (cR ?_));refine oV ?_
  (refine qf trivial rfl rfl rfl ?_ ?_; (omega))
  refine oV ?_;refine oN (qe (tC (cR ?_)));refine oV ?_
  (refine qf trivial rfl rfl rfl ?_ ?_; (omega))
  refine oV ?_;refine oN ?_
  exact qj (j + 1, c.root + 1) (sC rfl (sC rfl (sC rfl sN))) (fun _ h => h) (by show p.lets.length - (j + 1) < p.lets.length - j; omega) ⟨by show j + 1 ≤ p.lets.length; omega, by show 0 ≤ c.root + 1; omega, by show c.root + 1 ≤ ns.length; omega, by
    rw [if_pos ⟨by simp at h5; exact h5.1.1,by omega,by omega,by rw [hp.eq] at f6; exact f6⟩] at hgo
    exact hgo⟩
 have f4 := h4;try simp only [bl] at f4
 have hjn : j = p.lets.length := by omega
 rw [hjn,List.drop_length,q1a] at hgo
 refine qq (qc (qc (qp rfl (tC (cS (sR ?_))))));refine oV ?_;refine oF 3 underlying29 sizeOf27 ?_;refine oL isAgg27 ?_;refine qw trivial rfl underlying27 rfl (hsa) ?_;refine oV ?_;refine nT ?_;refine cC rfl (fun h7 => ?_) (fun h7 => ?_)
 ·
  have f7 := h7;try simp only [bl] at f7
  refine sR ?_;refine oV ?_;refine nF ?_;refine ret1 rfl rfl ?_;refine qg ⟨_,rfl,fun hw => ?_⟩
  have : (bgGo p.all p.lets 0 == some (p.all.length : Int)) = false := by rw [hgo,beq_eq_false_iff_ne]; intro h; have := Option.some.inj h; omega
  unfold qa7
  rw [this]
  simp
 have f7 := h7;try simp only [bl] at f7
 have hgo1 : bgGo p.all p.lets 0 = some (p.all.length : Int) := by rw [hgo]; congr 1; omega
 have hlow := q1e hkn hgo1
 refine kS ?_;refine oA isAgg29 sizeOf29 ?_;refine oQ call54 rfl (q0w vi vl vo va p ns hp hlow (by omega)) ?_;refine oV ?_;refine nS ?_;iterate 3 refine oV ?_
 refine nE ?_;refine ret1 rfl rfl ?_;refine qg ⟨_,rfl,fun hw => ?_⟩
 unfold qa7
 rw [hall1 hw,hgo1,hsz.1.1,hsz.2.1.1]
 rw [decide_eq_true hsz.1.2.1,decide_eq_true hsz.1.2.2,decide_eq_true hsz.2.1.2.1,decide_eq_true hsz.2.1.2.2,decide_eq_true hsz.2.2.1,decide_eq_true hsz.2.2.2]
 simp
theorem q1g (vi vl vo va : Value) (p : qx) (ns : List qk) {I : Hp} (hp : y5 I vi vl vo va p ns) (hf : ∀ o ∈ ns, o.c.few 3000) :
   Fun prog 36 [.agg #[vi,vl,vo,va]] I [] (fun v _ _ => v = .bool (qa7 p)) :=
 qkt (q1f vi vl vo va p ns hp (fun o ho => ⟨Nat.le_trans (hf o ho).1 (by decide),Nat.le_trans (hf o ho).2 (by decide)⟩)) fun v I' B' ⟨b,hv,hb⟩ => by rw [hv,hb hf]
def hasK (s : ByteArray) (K : KN) : Bool := (getK s K).isSome
def insZ : List ByteArray → Nat → KN → ByteArray × Int × KN
 | [],_,K => (⟨#[]⟩,0,K)
 | s :: l,i,K => if hasK s K = true then (s,7,K) else insZ l (i + 1) (K ++ [(s,⟨false,(i : Nat)⟩)])
def jj (K : KN) : List NodeC → List ByteArray → Option ByteArray × List ByteArray
 | [],L => (none,L)
 | c :: r,L => if c.kind ≠ 0 then jj K r L else if hasK c.name K = true then jj K r (L ++ [c.name]) else (some c.name,L)
def segZ (all : List NodeC) (fr hi : Int) : List NodeC := (all.take hi.toNat).drop fr.toNat
def yg (all : List NodeC) : List LetC → Nat → Int → KN → List ByteArray → ByteArray × Int × KN × List ByteArray
 | [],_,_,K,L => (⟨#[]⟩,0,K,L)
 | l :: ls, i, fr, K, L => match jj K (segZ all fr (l.root + 1)) L with
   | (some n,L') => (n,6,K,L')
   | (none,L') => if hasK l.name K = true then (l.name,7,K,L') else yg all ls (i + 1) (l.root + 1) (K ++ [(l.name,⟨true,(i : Nat)⟩)]) L'
def ousZ (K : KN) : List ByteArray → List ByteArray → ByteArray × Int × List ByteArray
 | [],L => (⟨#[]⟩,0,L)
 | s :: r,L => if hasK s K = true then ousZ K r (L ++ [s]) else (s,6,L)
structure SR where
 name : ByteArray
 err : Int
 K : KN
 L : List ByteArray
def vv (p : qx) : SR :=
 if (tZ p).isSome = true then
   if (insZ p.ins 0 []).2.1 ≠ 0 then ⟨(insZ p.ins 0 []).1,(insZ p.ins 0 []).2.1,(insZ p.ins 0 []).2.2,[]⟩
   else if (yg p.all p.lets 0 0 (insZ p.ins 0 []).2.2 []).2.1 ≠ 0 then ⟨(yg p.all p.lets 0 0 (insZ p.ins 0 []).2.2 []).1,(yg p.all p.lets 0 0 (insZ p.ins 0 []).2.2 []).2.1,(yg p.all p.lets 0 0 (insZ p.ins 0 []).2.2 []).2.2.1,(yg p.all p.lets 0 0 (insZ p.ins 0 []).2.2 []).2.2.2⟩
   else ⟨(ousZ (yg p.all p.lets 0 0 (insZ p.ins 0 []).2.2 []).2.2.1 p.outs (yg p.all p.lets 0 0 (insZ p.ins 0 []).2.2 []).2.2.2).1,(ousZ (yg p.all p.lets 0 0 (insZ p.ins 0 []).2.2 []).2.2.1 p.outs (yg p.all p.lets 0 0 (insZ p.ins 0 []).2.2 []).2.2.2).2.1,(yg p.all p.lets 0 0 (insZ p.ins 0 []).2.2 []).2.2.1,(ousZ (yg p.all p.lets 0 0 (insZ p.ins 0 []).2.2 []).2.2.1 p.outs (yg p.all p.lets 0 0 (insZ p.ins 0 []).2.2 []).2.2.2).2.2⟩
 else ⟨⟨#[]⟩,1,[],[]⟩
def tbI (b bk bu : Nat) : Tw.Item := .box b (.cells [.map (some bk),.map (some bu)].toArray 100 (0,0))
def knI (bk : Nat) (K : KN) : Tw.Item := .box bk (knO K)
def usI (bu : Nat) (L : List ByteArray) : Tw.Item := .box bu (usO L)
def putN (s : ByteArray) (p : PL) (K : KN) : KN := if hasK s K = true then K else K ++ [(s,p)]
theorem qrs (b bk bu : Nat) (K : KN) (s : ByteArray) (p : PL) {I : Hp} : Fun prog 86 [.pointer (some ⟨b, 0, none⟩), .string s, .agg #[.bool p.l, .int .i64 p.i]] I [tbI b bk bu, knI bk K]
   (fun v I' B' => I = I' ∧ v = .int .i64 (if hasK s K = true then 7 else 0) ∧ B' = [tbI b bk bu,knI bk (putN s p K)]) := by
 unfold tbI knI
 intro w hw
 refine j5 _ func86 rfl ntmps86 rfl ?_ hw;refine sR ?_;refine qo trivial rfl rfl rfl (fun b5 => ?_);refine oV ?_;refine nU ?_;iterate 2 refine oV ?_
 refine oF 0 underlying100 sizeOf97 ?_;refine oL isAgg97 ?_;refine oV ?_;refine qk8 trivial rfl underlying97 underlying9 zeroValue95 rfl rfl (by repeat constructor) ?_;iterate 3 refine oV ?_
 refine qh trivial rfl zeroValue95 rfl (fun b7 => ?_);refine oS sizeOf95 ?_;refine oV ?_;refine nS ?_;refine oV ?_;refine nT ?_;refine cC rfl (fun h1 => ?_) (fun h1 => ?_)
 ·
  have f1 := h1;try simp only [bl] at f1
  have hh : hasK s K = true := h1
  refine sR ?_;refine oV ?_;refine nF ?_;refine ret1 rfl rfl ?_;exact fun w' hw' => ⟨I,[tbI b bk bu,knI bk K],hw'.sort (by repeat constructor),Ext.refl _ _,rfl,by rw [if_pos hh],by unfold putN; rw [if_pos hh]; rfl⟩
 have f1 := h1;try simp only [bl] at f1
 have hh : hasK s K = false := h1
 refine cK (tC (cS ?_));refine yb (m := 7) [.box b5 _] (by repeat constructor) (by kernel_rfl) rfl ?_;refine qT (i := 0) (qB 7 1) (Hp.Le.refl _) rfl rfl (oV qF) ?_;refine qT (i := 1) (qB 7 3) (Hp.Le.refl _) rfl rfl (oV qF) ?_;refine qT (i := 2) (qB 7 7) (Hp.Le.refl _) rfl rfl (oF 0 underlying100 sizeOf97 qF) ?_;refine qT (i := 4) (qB 7 23) (Hp.Le.refl _) rfl rfl (oV qF) ?_;refine qT (i := 5) (qB 7 55) (Hp.Le.refl _) rfl rfl (oA isAgg95 sizeOf95 qF) ?_;refine qO (i := 3) (qB 7 63) rfl ?_;refine oL isAgg97 ?_;refine qM (Hp.Le.refl _) ?_;refine qO (i := 6) (qB 7 127) rfl ?_;refine q0q (hh) trivial underlying97 underlying9 rfl rfl rfl (by repeat constructor) ?_;refine qM (Hp.Le.refl _) ?_;refine qn (by kernel_rfl) ?_;refine tC (sR ?_);refine oV ?_;refine nE ?_;refine ret1 rfl rfl ?_;exact fun w' hw' => ⟨I,[tbI b bk bu,knI bk (K ++ [(s,p)])],hw'.sort (by repeat constructor),Ext.refl _ _,rfl,by rw [hh]; rfl,by unfold putN; rw [hh]; rfl⟩
def useL (s : ByteArray) (K : KN) (L : List ByteArray) : List ByteArray := if hasK s K = true then L ++ [s] else L
theorem qrt (b bk bu : Nat) (K : KN) (L : List ByteArray) (s : ByteArray) {I : Hp} (hL : L.length ≤ 1000000) : Fun prog 60 [.pointer (some ⟨b, 0, none⟩), .string s] I [tbI b bk bu, knI bk K, usI bu L]
   (fun v I' B' => I = I' ∧ v = .int .i64 (if hasK s K = true then 0 else 6) ∧ B' = [tbI b bk bu,knI bk K,usI bu (useL s K L)]) := by
 have hcl := qrb s L
 unfold tbI knI usI
 intro w hw
 refine qv _ func60 rfl ntmps60 rfl ?_ hw;refine sR ?_;refine oV ?_;refine nU ?_;iterate 2 refine oV ?_
 refine oF 0 underlying100 sizeOf97 ?_;refine oL isAgg97 ?_;refine oV ?_;refine qk8 trivial rfl underlying97 underlying9 zeroValue95 rfl rfl (by repeat constructor) ?_;iterate 3 refine oV ?_
 refine qh trivial rfl zeroValue95 rfl (fun b5 => ?_);refine oS sizeOf95 ?_;refine oV ?_;refine nS ?_;iterate 2 refine oV ?_
 refine nT ?_;refine cC rfl (fun h1 => ?_) (fun h1 => ?_)
 ·
  have f1 := h1;try simp only [bl] at f1
  have hh : hasK s K = false := by
    unfold hasK
    cases e : (getK s K).isSome with
    | false => rfl
    | true => rw [e] at h1; cases h1
  refine sR ?_;refine oV ?_;refine nF ?_;refine ret1 rfl rfl ?_;exact fun w' hw' => ⟨I,[tbI b bk bu,knI bk K,usI bu L],hw'.sort (by repeat constructor),Ext.refl _ _,rfl,by rw [hh]; rfl,by unfold useL; rw [hh]; rfl⟩
 have f1 := h1;try simp only [bl] at f1
 have hh : hasK s K = true := by
   unfold hasK
   cases e : (getK s K).isSome with
   | true => rfl
   | false => rw [e] at h1; cases h1
 refine kS ?_;iterate 2 refine oV ?_
 refine oF 1 underlying100 sizeOf98 ?_;refine oL isAgg98 ?_;refine oV ?_;refine q0r trivial rfl underlying98 underlying9 zeroValue3 rfl rfl (by repeat constructor) ?_
 (refine qf trivial rfl rfl rfl ?_ ?_; (omega))
 refine q0s trivial underlying98 underlying9 rfl rfl rfl (by repeat constructor) ?_;refine nS ?_;refine oV ?_;refine nE ?_;refine ret1 rfl rfl ?_;exact fun w' hw' => ⟨I,[tbI b bk bu,knI bk K,usI bu (L ++ [s])],hw'.sort (by repeat constructor),Ext.refl _ _,rfl,by rw [if_pos hh],by unfold useL; rw [if_pos hh]; rfl⟩
theorem qru {l : List ByteArray} {i : Nat} {s : ByteArray} (h : l[i]? = some s) (K : KN) : insZ (l.drop i) i K = if hasK s K = true then (s,7,K) else insZ (l.drop (i + 1)) (i + 1) (K ++ [(s,⟨false,(i : Nat)⟩)]) := by
 obtain ⟨h1,h2⟩ := List.getElem?_eq_some_iff.1 h
 rw [List.drop_eq_getElem_cons h1,h2]
 rfl
theorem q1h (b bk bu : Nat) (K : KN) (v : Value) (l : List ByteArray) {I : Hp} (h : Slc I 1 v (scs l)) : Fun prog 58 [.pointer (some ⟨b, 0, none⟩), v] I [tbI b bk bu, knI bk K]
   (fun v I' B' => I = I' ∧ v = .tuple #[.string (insZ l 0 K).1,.int .i64 (insZ l 0 K).2.1] ∧ B' = [tbI b bk bu,knI bk (insZ l 0 K).2.2]) := by
 have hl := jf l
 have hmx := h.most
 rw [hl] at hmx
 unfold maxLen at hmx
 intro w hw
 refine qv _ func58 rfl ntmps58 rfl ?_ hw;refine sR ?_;iterate 2 refine oV ?_
 refine nU ?_;refine oV ?_;refine qw trivial rfl underlying25 rfl (h) ?_;refine oV ?_;refine oN (tC (cB ?_));refine qu (ι := Nat × KN) [0,9,10] (.cons rfl (.cons rfl (.cons rfl .nil))) (fun x => l.length - x.1) (fun x E0 => (11,.int .i64 (x.1 : Nat)) :: E0) (fun x => St w (je [tbI b bk bu,knI bk K]) I [tbI b bk bu,knI bk x.2]) (fun x => x.1 ≤ l.length ∧ insZ l 0 K = insZ (l.drop x.1) x.1 x.2) ((0,K)) (sC rfl (sC rfl (sC rfl (sC rfl sN)))) (fun _ h => h) (⟨Nat.zero_le _,rfl⟩) ?_;rintro ⟨i,K1⟩ ⟨hi,hF⟩
 try dsimp only
 simp only at hi hF
 refine sR ?_;refine oV ?_;refine oN (tC (cS ?_));refine cC rfl (fun h1 => ?_) (fun h1 => ?_)
 ·
  have f1 := h1;try simp only [bl] at f1
  obtain ⟨s,hs⟩ : ∃ s,l[i]? = some s := ⟨l[i]'(by omega),List.getElem?_eq_getElem (by omega)⟩
  rw [qru hs] at hF
  refine cK (tC (cS (cB (sR ?_))));refine oV ?_;refine vk trivial rfl underlying25 sizeOf9 rfl (h) rfl (by omega) ?_;refine q8 trivial rfl isAgg9 rfl (zn h hs) ?_;iterate 2 refine oV ?_
  refine nS ?_;iterate 3 refine oV ?_
  refine vg trivial rfl (qm9) rfl (.cons rfl rfl rfl (by repeat constructor) .nil) ?_;refine oC trivial rfl call86 rfl (qrs b bk bu K1 s ⟨false,(i : Nat)⟩) (by repeat constructor) ?_;rintro _ _ _ hxa ⟨rfl,rfl,rfl⟩;refine oV ?_;refine nS ?_;iterate 2 refine oV ?_
  refine nT ?_;refine cC rfl (fun h2 => ?_) (fun h2 => ?_)
  ·
   have f2 := h2;try simp only [bl] at f2
   have hh : hasK s K1 = true := by
     cases e : hasK s K1 with
     | true => rfl
     | false => rw [e] at h2; simp at h2
   rw [if_pos hh] at hF
   refine sR ?_;iterate 4 refine oV ?_
   refine oN (tC (cT (qd (tR (tR (qd (tR ?_)))))));refine ret2 rfl rfl rfl ?_;exact fun w' hw' => ⟨I,[tbI b bk bu,knI bk K1],(by unfold putN at hw'; rw [if_pos hh] at hw'; exact hw'.sort (by repeat constructor)),Ext.refl _ _,rfl,by rw [hF,if_pos hh],by rw [hF]⟩
  have f2 := h2;try simp only [bl] at f2
  have hh : hasK s K1 = false := by
    cases e : hasK s K1 with
    | false => rfl
    | true => rw [e] at h2; simp at h2
  rw [hh,if_neg (by decide)] at hF
  refine cK (qe (tC (cR ?_)))
  (refine qf trivial rfl rfl rfl ?_ ?_; (omega))
  refine oV ?_;refine oN ?_;exact qj (i + 1,K1 ++ [(s,⟨false,(i : Nat)⟩)]) (sC rfl (sC rfl (sC rfl (sC rfl sN)))) (fun _ h => by unfold putN at h; rw [hh] at h; exact h.sort (by repeat constructor)) (by show l.length - (i + 1) < l.length - i; omega) ⟨by show i + 1 ≤ _; omega,hF⟩
 have f1 := h1;try simp only [bl] at f1
 have hin : l.drop i = [] := List.drop_of_length_le (by omega)
 rw [hin] at hF
 refine qq (qc (qc (qp rfl (tC (sR ?_)))));iterate 2 refine oV ?_
 refine nE ?_;refine ret2 rfl rfl rfl ?_;exact fun w' hw' => ⟨I,[tbI b bk bu,knI bk K1],hw'.sort (by repeat constructor),Ext.refl _ _,rfl,by rw [hF]; rfl,by rw [hF]; rfl⟩
theorem qrv {seg : List qk} {j : Nat} {o : qk} (h : seg[j]? = some o) (K : KN) (L : List ByteArray) : jj K ((seg.drop j).map qk.c) L = if o.c.kind ≠ 0 then jj K ((seg.drop (j + 1)).map qk.c) L else if hasK o.c.name K = true then jj K ((seg.drop (j + 1)).map qk.c) (L ++ [o.c.name]) else (some o.c.name,L) := by
 obtain ⟨h1,h2⟩ := List.getElem?_eq_some_iff.1 h
 rw [List.drop_eq_getElem_cons h1,h2]
 rfl
theorem qrw {ls : List LetC} {i : Nat} {c : LetC} (h : ls[i]? = some c) (all : List NodeC) (fr : Int) (K : KN) (L : List ByteArray) : yg all (ls.drop i) i fr K L = match jj K (segZ all fr (c.root + 1)) L with
   | (some n,L') => (n,6,K,L')
   | (none,L') => if hasK c.name K = true then (c.name,7,K,L') else yg all (ls.drop (i + 1)) (i + 1) (c.root + 1) (K ++ [(c.name,⟨true,(i : Nat)⟩)]) L' := by
 obtain ⟨h1,h2⟩ := List.getElem?_eq_some_iff.1 h
 rw [List.drop_eq_getElem_cons h1,h2]
 rfl
theorem q1i (b bk bu : Nat) (K : KN) (L : List ByteArray) (vi vl vo va : Value) (p : qx) (ns : List qk) {I : Hp} (hp : y5 I vi vl vo va p ns) (hgo : bgGo p.all p.lets 0 = some (p.all.length : Int)) (hn : p.all.length ≤ 1000) (hL : L.length ≤ 1000) :
   Fun prog 59 [.pointer (some ⟨b,0,none⟩),.agg #[vi,vl,vo,va]] I [tbI b bk bu,knI bk K,usI bu L]
   (fun v I' B' => I = I' ∧ v = .tuple #[.string (yg p.all p.lets 0 0 K L).1,.int .i64 (yg p.all p.lets 0 0 K L).2.1] ∧ B' = [tbI b bk bu,knI bk (yg p.all p.lets 0 0 K L).2.2.1,usI bu (yg p.all p.lets 0 0 K L).2.2.2]) := by
 have hsi := hp.si
 have hsl := hp.sl
 have hso := hp.so
 have hsa := hp.sa
 have hll : (p.lets.map LetC.cells).length = p.lets.length := List.length_map _
 have hla := z4 ns
 have hal : p.all.length = ns.length := by rw [← hp.eq,List.length_map]
 have hmx := hsl.most
 rw [hll] at hmx
 unfold maxLen at hmx
 intro w hw
 refine qv _ func59 rfl ntmps59 rfl ?_ hw;refine sR ?_;refine qo trivial rfl rfl rfl (fun b3 => ?_);iterate 2 refine oV ?_
 refine nS ?_;refine oV ?_;refine nU ?_;refine oF 1 underlying29 sizeOf26 ?_;refine oL isAgg26 ?_;refine qw trivial rfl underlying26 rfl (hsl) ?_;refine oV ?_;refine oN (tC (cB ?_));refine qu (ι := Nat × Int × KN × List ByteArray) [0,3,14,15] (.cons rfl (.cons rfl (.cons rfl (.cons rfl .nil)))) (fun x => p.lets.length - x.1) (fun x E0 => (6,.int .i64 x.2.1) :: (16,.int .i64 (x.1 : Nat)) :: E0) (fun x => St w (je [tbI b bk bu,knI bk K,usI bu L]) I [tbI b bk bu,knI bk x.2.2.1,usI bu x.2.2.2,.box b3 (.cells #[vi,vl,vo,va] 29 (0,0))]) (fun x => x.1 ≤ p.lets.length ∧ 0 ≤ x.2.1 ∧ x.2.1 ≤ ns.length ∧ bgGo p.all (p.lets.drop x.1) x.2.1 = some (p.all.length : Int) ∧ yg p.all p.lets 0 0 K L = yg p.all (p.lets.drop x.1) x.1 x.2.1 x.2.2.1 x.2.2.2 ∧ (x.2.2.2.length : Int) ≤ 1000 + x.2.1) ((0,0,K,L)) (sC rfl (sC rfl (sC rfl (sC rfl (sC rfl (sC rfl sN)))))) (fun _ h => h.sort (by repeat constructor)) (⟨Nat.zero_le _,Int.le_refl _,by show (0 : Int) ≤ ns.length; omega,hgo,rfl,by show (L.length : Int) ≤ 1000 + 0; omega⟩) ?_;rintro ⟨i,fr,K1,L1⟩ ⟨hi,hfr0,hfr1,hg,hF,hL1⟩
 try dsimp only
 simp only at hi hfr0 hfr1 hg hF hL1
 refine sR ?_;refine oV ?_;refine oN (tC (cS ?_));refine cC rfl (fun h1 => ?_) (fun h1 => ?_)
 ·
  have f1 := h1;try simp only [bl] at f1
  obtain ⟨c,hc⟩ : ∃ c,p.lets[i]? = some c := ⟨p.lets[i]'(by omega),List.getElem?_eq_getElem (by omega)⟩
  have hdr : p.lets.drop i = c :: p.lets.drop (i + 1) := by rw [List.drop_eq_getElem_cons (List.getElem?_eq_some_iff.1 hc).1,(List.getElem?_eq_some_iff.1 hc).2]
  rw [qrw hc] at hF
  rw [hdr,qe5] at hg
  by_cases hcd : yk c.name = true ∧ fr ≤ c.root ∧ c.root < p.all.length ∧ begZ p.all fr p.all.length c.root = fr
  case' neg => rw [if_neg hcd] at hg; cases hg
  rw [if_pos hcd] at hg
  obtain ⟨_,c2,c3,_⟩ := hcd
  obtain ⟨seg,hseg⟩ : ∃ seg,seg = (ns.take (c.root + 1).toNat).drop fr.toNat := ⟨_,rfl⟩
  have hsegl : (seg.length : Int) = c.root + 1 - fr := by rw [hseg,List.length_drop,List.length_take]; omega
  have hcut : Slc I 8 (jp va fr.toNat (c.root + 1).toNat 8) (nds seg) := by
    have h9 := hsa.cut (lo := fr.toNat) (hi := (c.root + 1).toNat) (by omega) (by omega)
    have e9 : nds seg = ((nds ns).take (c.root + 1).toNat).drop fr.toNat := by rw [hseg]; unfold nds; rw [List.map_drop,List.map_take]
    rw [e9]; exact h9
  have hsc : segZ p.all fr (c.root + 1) = seg.map qk.c := by rw [hseg,← hp.eq]; unfold segZ; rw [List.map_drop,List.map_take]
  have hsok : ∀ o ∈ seg,o.ok I := fun o ho => hp.ok o (by rw [hseg] at ho; exact List.mem_of_mem_take (List.mem_of_mem_drop ho))
  rw [hsc] at hF
  have hnl := z4 seg
  refine cK (tC (cS (cB (sR ?_))));refine oV ?_;refine vk trivial rfl underlying26 sizeOf72 rfl (hsl) rfl (by omega) ?_;refine y7 trivial rfl isAgg72 sizeOf72 rfl rfl (qbq hsl hc) ?_;refine qh trivial rfl zeroValue72 rfl (fun b8 => ?_);refine oV ?_;refine oS sizeOf72 ?_;refine nU ?_;refine oF 3 underlying29 sizeOf27 ?_;refine oL isAgg27 ?_;refine oV ?_;refine oF 1 underlying72 sizeOf3 ?_;refine oL isAgg3 ?_
  (refine qf trivial rfl rfl rfl ?_ ?_; (omega))
  refine qml trivial rfl underlying27 sizeOf67 rfl (hsa) rfl rfl (by omega) ?_;refine qw trivial rfl underlying27 rfl (hcut) ?_;refine oV ?_;refine oN (tC (cB ?_));refine qu (ι := Nat × List ByteArray) [0,3,7,8,14,15,16,27,28] (.cons rfl (.cons rfl (.cons rfl (.cons rfl (.cons rfl (.cons rfl (.cons rfl (.cons rfl (.cons rfl .nil))))))))) (fun x => seg.length - x.1) (fun x E0 => (29,.int .i64 (x.1 : Nat)) :: E0) (fun x => St w (je [tbI b bk bu,knI bk K,usI bu L]) I [tbI b bk bu,knI bk K1,usI bu x.2,.box b8 (.cells #[.string c.name,.int .i64 c.root] 72 (0,0)),.box b3 (.cells #[vi,vl,vo,va] 29 (0,0))]) (fun x => x.1 ≤ seg.length ∧ jj K1 (seg.map qk.c) L1 = jj K1 ((seg.drop x.1).map qk.c) x.2 ∧ x.2.length ≤ L1.length + x.1) ((0,L1)) (sC rfl (sC rfl (sC rfl (sC rfl (sC rfl (sC rfl (sC rfl (sC rfl (sC rfl (sC rfl sN)))))))))) (fun _ h => h.sort (by repeat constructor)) (⟨Nat.zero_le _,rfl,Nat.le_refl _⟩) ?_;rintro ⟨j,L2⟩ ⟨hj,hF2,hL2⟩
  try dsimp only
  simp only at hj hF2 hL2
  refine sR ?_;refine oV ?_;refine oN (tC (cS ?_));refine cC rfl (fun h2 => ?_) (fun h2 => ?_)
  ·
   have f2 := h2;try simp only [bl] at f2
   obtain ⟨o,ho⟩ : ∃ o,seg[j]? = some o := ⟨seg[j]'(by omega),List.getElem?_eq_getElem (by omega)⟩
   have hom := List.mem_of_getElem? ho
   have hw1 : Ws I o.vn o.c.n := (hsok o hom).1
   have hw2 : Ws I o.vd o.c.d := (hsok o hom).2
   rw [qrv ho] at hF2
   refine cK (tC (cS (cB (sR ?_))));refine vk trivial rfl underlying27 sizeOf67 rfl (hcut) rfl (by omega) ?_;refine y7 trivial rfl isAgg67 sizeOf67 rfl rfl (qa6 hcut ho) ?_;refine qh trivial rfl zeroValue67 rfl (fun b10 => ?_);refine oS sizeOf67 ?_;refine nU ?_;refine oF 0 underlying67 sizeOf3 ?_;refine oL isAgg3 ?_;refine oV ?_;refine nT ?_;refine cC rfl (fun h3 => ?_) (fun h3 => ?_)
   ·
    have f3 := h3;try simp only [bl] at f3
    have hk0 : o.c.kind ≠ 0 := by simpa using h3
    rw [if_pos hk0] at hF2
    refine qq (qc (qp rfl (tC (cR ?_))))
    (refine qf trivial rfl rfl rfl ?_ ?_; (omega))
    refine oV ?_;refine oN ?_
    (exact qj (j + 1,L2) (sC rfl (sC rfl (sC rfl (sC rfl (sC rfl (sC rfl (sC rfl (sC rfl (sC rfl (sC rfl sN)))))))))) (fun _ h => h.sort (by repeat constructor)) (by show seg.length - (j + 1) < seg.length - j; omega) ⟨by show j + 1 ≤ _; omega,hF2,by show L2.length ≤ L1.length + (j + 1); omega⟩)
   have f3 := h3;try simp only [bl] at f3
   have hk0 : o.c.kind = 0 := by simpa using h3
   rw [if_neg (not_not_intro hk0)] at hF2
   refine kS ?_;refine oV ?_;refine oF 4 underlying67 sizeOf9 ?_;refine oL isAgg9 ?_;refine oC trivial rfl call60 rfl (qrt b bk bu K1 L2 o.c.name (by omega)) (by repeat constructor) ?_;rintro _ _ _ hxu ⟨rfl,rfl,rfl⟩;refine oV ?_;refine nS ?_;iterate 2 refine oV ?_
   refine nT ?_;refine cC rfl (fun h4 => ?_) (fun h4 => ?_)
   ·
    have f4 := h4;try simp only [bl] at f4
    have hh : hasK o.c.name K1 = false := by
      cases e : hasK o.c.name K1 with
      | false => rfl
      | true => rw [e] at h4; simp at h4
    rw [hh,if_neg (by decide)] at hF2
    rw [hF2] at hF
    refine sR ?_;refine oF 4 underlying67 sizeOf9 ?_;refine oL isAgg9 ?_;iterate 3 refine oV ?_
    refine oN (tC (cT (qd (tR (tR (qd (tR (qd (tR (tR (qd (tR ?_))))))))))));refine ret2 rfl rfl rfl ?_;exact fun w' hw' => ⟨I,[tbI b bk bu,knI bk K1,usI bu L2],(by unfold useL at hw'; rw [hh,if_neg (by decide)] at hw'; exact hw'.sort (by repeat constructor)),Ext.refl _ _,rfl,by rw [hF,hh]; rfl,by rw [hF]⟩
   have f4 := h4;try simp only [bl] at f4
   have hh : hasK o.c.name K1 = true := by
     cases e : hasK o.c.name K1 with
     | true => rfl
     | false => rw [e] at h4; simp at h4
   rw [if_pos hh] at hF2
   refine cK (qe (tC (cR ?_)))
   (refine qf trivial rfl rfl rfl ?_ ?_; (omega))
   refine oV ?_;refine oN ?_
   (exact qj (j + 1,L2 ++ [o.c.name]) (sC rfl (sC rfl (sC rfl (sC rfl (sC rfl (sC rfl (sC rfl (sC rfl (sC rfl (sC rfl sN)))))))))) (fun _ h => by unfold useL at h; rw [if_pos hh] at h; exact h.sort (by repeat constructor)) (by show seg.length - (j + 1) < seg.length - j; omega) ⟨by show j + 1 ≤ _; omega,hF2,by show (L2 ++ [o.c.name]).length ≤ L1.length + (j + 1); rw [List.length_append]; show L2.length + 1 ≤ _; omega⟩)
  have f2 := h2;try simp only [bl] at f2
  have hjn : seg.drop j = [] := List.drop_of_length_le (by omega)
  rw [hjn] at hF2
  have hF3 : jj K1 (seg.map qk.c) L1 = (none,L2) := hF2
  rw [hF3] at hF
  dsimp only at hF
  refine qq (qc (qc (qp rfl (tC (sR ?_)))));refine oF 1 underlying72 sizeOf3 ?_;refine oL isAgg3 ?_
  (refine qf trivial rfl rfl rfl ?_ ?_; (omega))
  refine oV ?_;refine nS ?_;refine oV ?_;refine oF 0 underlying72 sizeOf9 ?_;refine oL isAgg9 ?_;refine oV ?_;refine vg trivial rfl (qm9) rfl (.cons rfl rfl rfl (by repeat constructor) (.cons rfl rfl rfl (by repeat constructor) .nil)) ?_;refine oC trivial rfl call86 rfl (qrs b bk bu K1 c.name ⟨true,(i : Nat)⟩) (by repeat constructor) ?_;rintro _ _ _ hxa ⟨rfl,rfl,rfl⟩;refine oV ?_;refine nS ?_;iterate 2 refine oV ?_
  refine nT ?_;refine cC rfl (fun h5 => ?_) (fun h5 => ?_)
  ·
   have f5 := h5;try simp only [bl] at f5
   have hh : hasK c.name K1 = true := by
     cases e : hasK c.name K1 with
     | true => rfl
     | false => rw [e] at h5; simp at h5
   rw [if_pos hh] at hF
   refine sR ?_;refine oF 0 underlying72 sizeOf9 ?_;refine oL isAgg9 ?_;iterate 3 refine oV ?_
   refine oN (tC (cT (qd (tR (tR (qd (tR ?_)))))));refine ret2 rfl rfl rfl ?_;exact fun w' hw' => ⟨I,[tbI b bk bu,knI bk K1,usI bu L2],(by unfold putN at hw'; rw [if_pos hh] at hw'; exact hw'.sort (by repeat constructor)),Ext.refl _ _,rfl,by rw [hF,if_pos hh],by rw [hF]⟩
  have f5 := h5;try simp only [bl] at f5
  have hh : hasK c.name K1 = false := by
    cases e : hasK c.name K1 with
    | false => rfl
    | true => rw [e] at h5; simp at h5
  rw [hh,if_neg (by decide)] at hF
  refine cK (qe (tC (cR ?_)))
  (refine qf trivial rfl rfl rfl ?_ ?_; (omega))
  refine oV ?_;refine oN ?_;exact qj (i + 1,c.root + 1,K1 ++ [(c.name,⟨true,(i : Nat)⟩)],L2) (sC rfl (sC rfl (sC rfl (sC rfl (sC rfl (sC rfl sN)))))) (fun _ h => by unfold putN at h; rw [hh,if_neg (by decide)] at h; exact h.sort (by repeat constructor)) (by show p.lets.length - (i + 1) < p.lets.length - i; omega) ⟨by show i + 1 ≤ _; omega,by show 0 ≤ c.root + 1; omega,by show c.root + 1 ≤ _; omega,hg,hF,by show (L2.length : Int) ≤ 1000 + (c.root + 1); omega⟩
 have f1 := h1;try simp only [bl] at f1
 have hin : p.lets.drop i = [] := List.drop_of_length_le (by omega)
 rw [hin] at hF
 refine qq (qc (qc (qp rfl (tC (sR ?_)))));iterate 2 refine oV ?_
 refine nE ?_;refine ret2 rfl rfl rfl ?_;exact fun w' hw' => ⟨I,[tbI b bk bu,knI bk K1,usI bu L1],hw'.sort (by repeat constructor),Ext.refl _ _,rfl,by rw [hF]; rfl,by rw [hF]; rfl⟩
theorem qld {p : qx} {l : List (ByteArray × Ex)} (hr : zm p l) : bgGo p.all p.lets 0 = some (p.all.length : Int) := by
 have hg := qlb p.all l 0 hr.ok (fun j c hj => by rw [hr.all,Nat.zero_add]; exact hj) (by rw [Nat.zero_add,← hr.all]; exact Nat.le_refl _)
 rw [← hr.lets,← hr.all,Nat.zero_add] at hg
 exact hg
theorem qle (K : KN) : ∀ (r : List NodeC) (L : List ByteArray), (jj K r L).2.length ≤ L.length + r.length
 | [],L => Nat.le_refl _
 | c :: r, L => by
   have h1 := qle K r L
   have h2 := qle K r (L ++ [c.name])
   rw [List.length_append] at h2
   have h3 : [c.name].length = 1 := rfl
   unfold jj
   rw [List.length_cons]
   split
   · omega
   · split
     · omega
     · show L.length ≤ _; omega
theorem qrx (all : List NodeC) : ∀ (ls : List LetC) (i : Nat) (fr : Int) (K : KN) (L : List ByteArray), (yg all ls i fr K L).2.2.2.length ≤ L.length + ls.length * all.length
 | [],i,fr,K,L => by show L.length ≤ _; omega
 | l :: ls, i, fr, K, L => by
   have h1 := qle K (segZ all fr (l.root + 1)) L
   have h2 : (segZ all fr (l.root + 1)).length ≤ all.length := by unfold segZ; rw [List.length_drop,List.length_take]; omega
   unfold yg
   rw [List.length_cons,Nat.succ_mul]
   cases hn : jj K (segZ all fr (l.root + 1)) L with
   | mk e L' =>
     rw [hn] at h1
     cases e with
     | some n => show L'.length ≤ _; dsimp only at h1; omega
     | none =>
       dsimp only at h1 ⊢
       split
       · show L'.length ≤ _; omega
       · have h3 := qrx all ls (i + 1) (l.root + 1) (K ++ [(l.name, ⟨true, (i : Nat)⟩)]) L'
         omega
theorem qry {l : List ByteArray} {i : Nat} {s : ByteArray} (h : l[i]? = some s) (K : KN) (L : List ByteArray) : ousZ K (l.drop i) L = if hasK s K = true then ousZ K (l.drop (i + 1)) (L ++ [s]) else (s,6,L) := by
 obtain ⟨h1,h2⟩ := List.getElem?_eq_some_iff.1 h
 rw [List.drop_eq_getElem_cons h1,h2]
 rfl
theorem qgf {p : qx} (h : (tZ p).isSome = false) : vv p = ⟨⟨#[]⟩,1,[],[]⟩ := by unfold vv; rw [h]; rfl
theorem qgg {p : qx} {n : ByteArray} {e : Int} {K : KN} (h : (tZ p).isSome = true) (hi : insZ p.ins 0 [] = (n,e,K)) (he : e ≠ 0) : vv p = ⟨n,e,K,[]⟩ := by unfold vv; rw [if_pos h,hi,if_pos he]
theorem qe6 {p : qx} {n m : ByteArray} {e : Int} {K K2 : KN} {L : List ByteArray} (h : (tZ p).isSome = true) (hi : insZ p.ins 0 [] = (n,0,K)) (hl : yg p.all p.lets 0 0 K [] = (m,e,K2,L)) (he : e ≠ 0) : vv p = ⟨m,e,K2,L⟩ := by
 unfold vv
 rw [if_pos h,hi,if_neg (by simp),hl,if_pos he]
theorem qh4 {p : qx} {n m : ByteArray} {K K2 : KN} {L : List ByteArray} (h : (tZ p).isSome = true) (hi : insZ p.ins 0 [] = (n,0,K)) (hl : yg p.all p.lets 0 0 K [] = (m,0,K2,L)) : vv p = ⟨(ousZ K2 p.outs L).1,(ousZ K2 p.outs L).2.1,K2,(ousZ K2 p.outs L).2.2⟩ := by
 unfold vv
 rw [if_pos h,hi,if_neg (by simp),hl,if_neg (by simp)]
theorem qrz (vi vl vo va : Value) (p : qx) (ns : List qk) {I : Hp} (hp : y5 I vi vl vo va p ns) (hf : ∀ o ∈ ns, o.c.few 2000000) :
   Fun prog 41 [.agg #[vi,vl,vo,va]] I [] (fun v I' B' => I = I' ∧ ∃ b bk bu,v = .tuple #[.pointer (some ⟨b,0,none⟩),.string (vv p).name,.int .i64 (vv p).err] ∧ B' = [tbI b bk bu,knI bk (vv p).K,usI bu (vv p).L]) := by
 have hsi := hp.si
 have hsl := hp.sl
 have hso := hp.so
 have hsa := hp.sa
 have hlo := jf p.outs
 intro w hw
 refine q9 _ func41 rfl ntmps41 rfl ?_ hw;refine sR ?_;refine qo trivial rfl rfl rfl (fun b1 => ?_);iterate 3 refine oV ?_
 refine nS ?_;refine qq5 trivial rfl (fun b13 => ?_);refine qq5 trivial rfl (fun b14 => ?_);refine vg trivial rfl (qu9) rfl (.cons rfl rfl rfl (by repeat constructor) (.cons rfl rfl rfl (by repeat constructor) .nil)) ?_;refine qo trivial rfl rfl rfl (fun b16 => ?_);refine oV ?_;refine nU ?_;refine oA isAgg29 sizeOf29 ?_;refine oQ call57 rfl (qz8 vi vl vo va p ns hp hf) ?_;refine oV ?_;refine nT ?_;refine cC rfl (fun h1 => ?_) (fun h1 => ?_)
 ·
  have f1 := h1;try simp only [bl] at f1
  have ht : (tZ p).isSome = false := by simpa using h1
  refine sR ?_;iterate 4 refine oV ?_
  refine nF ?_;refine ret3 rfl rfl rfl rfl ?_;exact fun w' hw' => ⟨I,[tbI b16 b13 b14,knI b13 [],usI b14 []],hw'.sort (by repeat constructor),Ext.refl _ _,rfl,b16,b13,b14,by rw [qgf ht],by rw [qgf ht]⟩
 have f1 := h1;try simp only [bl] at f1
 have ht : (tZ p).isSome = true := by
   cases e : (tZ p).isSome with
   | true => rfl
   | false => rw [e] at h1; cases h1
 obtain ⟨l,hl⟩ := qex.1 ht
 have hgo := qld hl
 have hfe := hl.few
 have hlb : p.lets.length ≤ 40 := by rw [hl.lets,qb4]; exact hl.few.1
 have hob := hl.outs.2.2
 have hll0 := qrx p.all p.lets 0 0 (insZ p.ins 0 []).2.2 []
 have hmul : p.lets.length * p.all.length ≤ 40 * 400 := Nat.mul_le_mul hlb hfe.2
 refine cK (tC (cS (sR ?_)));refine oV ?_;refine oF 0 underlying29 sizeOf25 ?_;refine oL isAgg25 ?_;refine qs9 (S' := St w [] I [tbI b16 b13 b14,knI b13 [],usI b14 [],.box b1 (.cells #[vi,vl,vo,va] 29 (0,0))]) (fun _ h => h.sort (by repeat constructor)) ?_;refine oC trivial rfl call58 rfl (q1h b16 b13 b14 [] vi p.ins hsi) (by repeat constructor) ?_;rintro _ _ _ hxi ⟨rfl,rfl,rfl⟩;iterate 5 refine oV ?_
 refine oN (tC (cS ?_))
 generalize hi : insZ p.ins 0 [] = ri at *
 obtain ⟨n1,e1,K1⟩ := ri
 dsimp only at hll0 ⊢
 refine cR ?_;iterate 2 refine oV ?_
 refine nT ?_;refine cC rfl (fun h2 => ?_) (fun h2 => ?_)
 ·
  have f2 := h2;try simp only [bl] at f2
  have he1 : e1 ≠ 0 := by simpa using h2
  refine sR ?_;iterate 6 refine oV ?_
  refine nF ?_;refine ret3 rfl rfl rfl rfl ?_;exact fun w' hw' => ⟨I,[tbI b16 b13 b14,knI b13 K1,usI b14 []],hw'.sort (by repeat constructor),Ext.refl _ _,rfl,b16,b13,b14,by rw [qgg ht hi he1]; rfl,by rw [qgg ht hi he1]⟩
 have f2 := h2;try simp only [bl] at f2
 obtain rfl : e1 = 0 := by simpa using h2
 refine cK (tC (cS (sR ?_)));refine oV ?_;refine oA isAgg29 sizeOf29 ?_;refine oC trivial rfl call59 rfl (q1i b16 b13 b14 K1 [] vi vl vo va p ns hp hgo (by omega) (Nat.zero_le _)) (by repeat constructor) ?_;rintro _ _ _ hxl ⟨rfl,rfl,rfl⟩;iterate 5 refine oV ?_
 refine oN (tC (cS ?_))
 generalize hz : yg p.all p.lets 0 0 K1 [] = rz at *
 obtain ⟨m1,e2,K2,L2⟩ := rz
 dsimp only at hll0 ⊢
 refine cR ?_;iterate 2 refine oV ?_
 refine nT ?_;refine cC rfl (fun h3 => ?_) (fun h3 => ?_)
 ·
  have f3 := h3;try simp only [bl] at f3
  have he2 : e2 ≠ 0 := by simpa using h3
  refine sR ?_;iterate 6 refine oV ?_
  refine nF ?_;refine ret3 rfl rfl rfl rfl ?_;exact fun w' hw' => ⟨I,[tbI b16 b13 b14,knI b13 K2,usI b14 L2],hw'.sort (by repeat constructor),Ext.refl _ _,rfl,b16,b13,b14,by rw [qe6 ht hi hz he2]; rfl,by rw [qe6 ht hi hz he2]⟩
 have f3 := h3;try simp only [bl] at f3
 obtain rfl : e2 = 0 := by simpa using h3
 have hrz := qh4 ht hi hz
 have hl2 : L2.length ≤ 16000 := by
   have h9 : ([] : List ByteArray).length = 0 := rfl
   omega
 refine cK (tC (cS (sR ?_)));refine oF 2 underlying29 sizeOf25 ?_;refine oL isAgg25 ?_;refine qw trivial rfl underlying25 rfl (hso) ?_;refine oV ?_;refine oN (tC (cB ?_));refine qu (ι := Nat × List ByteArray) [5,45,46] (.cons rfl (.cons rfl (.cons rfl .nil))) (fun x => p.outs.length - x.1) (fun x E0 => (47,.int .i64 (x.1 : Nat)) :: E0) (fun x => St w [] I [tbI b16 b13 b14,knI b13 K2,usI b14 x.2,.box b1 (.cells #[vi,vl,vo,va] 29 (0,0))]) (fun x => x.1 ≤ p.outs.length ∧ ousZ K2 p.outs L2 = ousZ K2 (p.outs.drop x.1) x.2 ∧ x.2.length ≤ L2.length + x.1) ((0,L2)) (sC rfl (sC rfl (sC rfl (sC rfl sN)))) (fun _ h => h.sort (by repeat constructor)) (⟨Nat.zero_le _,rfl,Nat.le_refl _⟩) ?_;rintro ⟨i,L3⟩ ⟨hi3,hF,hL3⟩
 try dsimp only
 simp only at hi3 hF hL3
 refine sR ?_;refine oV ?_;refine oN (tC (cS ?_));refine cC rfl (fun h4 => ?_) (fun h4 => ?_)
 ·
  have f4 := h4;try simp only [bl] at f4
  obtain ⟨s,hs⟩ : ∃ s,p.outs[i]? = some s := ⟨p.outs[i]'(by omega),List.getElem?_eq_getElem (by omega)⟩
  rw [qry hs] at hF
  refine cK (tC (cS (cB (sR ?_))));refine vk trivial rfl underlying25 sizeOf9 rfl (hso) rfl (by omega) ?_;refine q8 trivial rfl isAgg9 rfl (zn hso hs) ?_;refine oV ?_;refine nS ?_;iterate 2 refine oV ?_
  refine oC trivial rfl call60 rfl (qrt b16 b13 b14 K2 L3 s (by omega)) (by repeat constructor) ?_;rintro _ _ _ hxu ⟨rfl,rfl,rfl⟩;refine oV ?_;refine nS ?_;iterate 2 refine oV ?_
  refine nT ?_;refine cC rfl (fun h5 => ?_) (fun h5 => ?_)
  ·
   have f5 := h5;try simp only [bl] at f5
   have hh : hasK s K2 = false := by
     cases e : hasK s K2 with
     | false => rfl
     | true => rw [e] at h5; simp at h5
   rw [hh,if_neg (by decide)] at hF
   rw [hF] at hrz
   refine sR ?_;iterate 6 refine oV ?_
   refine oN (tC (cT (qd (tR (tR (qd (tR ?_)))))));refine ret3 rfl rfl rfl rfl ?_;exact fun w' hw' => ⟨I,[tbI b16 b13 b14,knI b13 K2,usI b14 L3],(by unfold useL at hw'; rw [hh,if_neg (by decide)] at hw'; exact hw'.sort (by repeat constructor)),Ext.refl _ _,rfl,b16,b13,b14,by rw [hrz,hh]; rfl,by rw [hrz]⟩
  have f5 := h5;try simp only [bl] at f5
  have hh : hasK s K2 = true := by
    cases e : hasK s K2 with
    | true => rfl
    | false => rw [e] at h5; simp at h5
  rw [if_pos hh] at hF
  refine cK (qe (tC (cR ?_)))
  (refine qf trivial rfl rfl rfl ?_ ?_; (omega))
  refine oV ?_;refine oN ?_;exact qj (i + 1,L3 ++ [s]) (sC rfl (sC rfl (sC rfl (sC rfl sN)))) (fun _ h => by unfold useL at h; rw [if_pos hh] at h; exact h.sort (by repeat constructor)) (by show p.outs.length - (i + 1) < p.outs.length - i; omega) ⟨by show i + 1 ≤ _; omega,hF,by show (L3 ++ [s]).length ≤ L2.length + (i + 1); rw [List.length_append]; show L3.length + 1 ≤ _; omega⟩
 have f4 := h4;try simp only [bl] at f4
 have hin : p.outs.drop i = [] := List.drop_of_length_le (by omega)
 rw [hin] at hF
 have hF2 : ousZ K2 p.outs L2 = (⟨#[]⟩,0,L3) := hF
 rw [hF2] at hrz
 refine qq (qc (qc (qp rfl (tC (sR ?_)))));iterate 4 refine oV ?_
 refine nE ?_;refine ret3 rfl rfl rfl rfl ?_;exact fun w' hw' => ⟨I,[tbI b16 b13 b14,knI b13 K2,usI b14 L3],hw'.sort (by repeat constructor),Ext.refl _ _,rfl,b16,b13,b14,by rw [hrz],by rw [hrz]⟩
theorem q1j (vi vl vo va : Value) (p : qx) (ns : List qk) {I : Hp} (hp : y5 I vi vl vo va p ns) (hf : ∀ o ∈ ns, o.c.few 2000000) :
   Fun prog 25 [.agg #[vi,vl,vo,va]] I [] (fun v _ _ => v = .tuple #[.string (vv p).name,.int .i64 (vv p).err]) := by
 have hsi := hp.si
 have hsl := hp.sl
 have hso := hp.so
 have hsa := hp.sa
 intro w hw
 refine q9 _ func25 rfl ntmps25 rfl ?_ hw;refine sR ?_;refine qo trivial rfl rfl rfl (fun b1 => ?_);iterate 2 refine oV ?_
 refine nS ?_;refine oA isAgg29 sizeOf29 ?_;refine oC trivial rfl call41 rfl (qrz vi vl vo va p ns hp hf) (by repeat constructor) ?_;rintro _ _ _ hxr ⟨rfl,b,bk,bu,rfl,rfl⟩;iterate 6 refine oV ?_
 refine nS ?_;iterate 4 refine oV ?_
 refine nE ?_;refine ret2 rfl rfl rfl ?_;exact qg rfl
def v8 (p : qx) (s : ByteArray) : Bool × Int × Bool := if (vv p).err = 0 ∧ hasK s (vv p).K = true then (((getK s (vv p).K).getD ⟨false,0⟩).l,((getK s (vv p).K).getD ⟨false,0⟩).i,true) else (false,0,false)
theorem q1k (vi vl vo va : Value) (p : qx) (ns : List qk) (s : ByteArray) {I : Hp} (hp : y5 I vi vl vo va p ns) (hf : ∀ o ∈ ns, o.c.few 2000000) :
   Fun prog 27 [.agg #[vi,vl,vo,va],.string s] I [] (fun v _ _ => v = .tuple #[.bool (v8 p s).1,.int .i64 (v8 p s).2.1,.bool (v8 p s).2.2]) := by
 have hsi := hp.si
 have hsl := hp.sl
 have hso := hp.so
 have hsa := hp.sa
 intro w hw
 refine qv _ func27 rfl ntmps27 rfl ?_ hw;refine sR ?_;refine qo trivial rfl rfl rfl (fun b2 => ?_);iterate 3 refine oV ?_
 refine nS ?_;refine oA isAgg29 sizeOf29 ?_;refine oC trivial rfl call41 rfl (qrz vi vl vo va p ns hp hf) (by repeat constructor) ?_;rintro _ _ _ hxr ⟨rfl,b,bk,bu,rfl,rfl⟩;iterate 7 refine oV ?_
 refine nS ?_;iterate 2 refine oV ?_
 refine oF 0 underlying100 sizeOf97 ?_;refine oL isAgg97 ?_;refine oV ?_;refine qk8 trivial rfl underlying97 underlying9 zeroValue95 rfl rfl (by repeat constructor) ?_;iterate 3 refine oV ?_
 refine qh trivial rfl zeroValue95 rfl (fun b10 => ?_);refine oS sizeOf95 ?_;refine oV ?_;refine nU ?_;iterate 2 refine oV ?_
 refine' oZ (fun hb29 => ?_) ?_;rotate_left
 ·
  have fb29 := hb29
  try simp only [bl] at fb29
  iterate 2 refine gV hb29 ?_
  refine oN ?_;exact qa rfl
 refine nT ?_;refine cC rfl (fun h1 => ?_) (fun h1 => ?_)
 ·
  have f1 := h1;try simp only [bl] at f1
  have hz : v8 p s = (false, 0, false) := if_neg (fun hh => by
    have h9 := h1
    rw [hh.1] at h9
    have h8 : (getK s (vv p).K).isSome = true := hh.2
    rw [h8] at h9
    cases h9)
  refine sR ?_;iterate 3 refine oV ?_
  refine nF ?_;refine ret3 rfl rfl rfl rfl ?_;refine qg ?_; rw [hz]
 have f1 := h1;try simp only [bl] at f1
 have hz : v8 p s = (((getK s (vv p).K).getD ⟨false, 0⟩).l, ((getK s (vv p).K).getD ⟨false, 0⟩).i, true) := if_pos (by
   have h9 := h1
   simp only [Bool.or_eq_false_iff,Bool.not_eq_false'] at h9
   exact ⟨by simpa using h9.1,h9.2⟩)
 refine cK (tC (cS ?_));refine jn (by kernel_rfl) (by kernel_rfl) (fun _ h => h.drawn) ?_;refine oF 0 underlying95 sizeOf4 ?_;refine oL isAgg4 ?_;refine oF 1 underlying95 sizeOf3 ?_;refine oL isAgg3 ?_;iterate 3 refine oV ?_
 refine nE ?_;refine ret3 rfl rfl rfl rfl ?_;refine qg ?_; rw [hz]
def strs (l : List ByteArray) : List Value := l.map Value.string
theorem qr0 (l : List ByteArray) (s : ByteArray) : strs (l ++ [s]) = strs l ++ [.string s] := by simp [strs]
theorem q1l {l : List ByteArray} {i : Nat} {s : ByteArray} (h : l[i]? = some s) : (strs l)[i]? = some (.string s) := by unfold strs; rw [List.getElem?_map,h]; rfl
def snI (u : Value) (l : List ByteArray) : Tw.Item := .row u 9 1 l.length (strs l)
def memB (s : ByteArray) : List ByteArray → Bool
 | [] => false
 | x :: l => decide (s = x) || memB s l
theorem q1m {l : List ByteArray} {i : Nat} {x : ByteArray} (h : l[i]? = some x) (s : ByteArray) : memB s (l.drop i) = (decide (s = x) || memB s (l.drop (i + 1))) := by
 obtain ⟨h1,h2⟩ := List.getElem?_eq_some_iff.1 h
 rw [List.drop_eq_getElem_cons h1,h2]
 rfl
theorem qgh {a b : ByteArray} (h : a.toList = b.toList) : a = b := by
 rw [qdp,qdp] at h
 exact ByteArray.ext (Array.ext' h)
theorem qh5 (u : Value) (l : List ByteArray) (s : ByteArray) {I : Hp} (hl : l.length ≤ 1000000) : Fun prog 37 [u,.string s] I [snI u l] (fun v I' B' => I = I' ∧ v = .bool (memB s l) ∧ B' = [snI u l]) := by
 unfold snI
 intro w hw
 refine qv _ func37 rfl ntmps37 rfl ?_ hw;refine sR ?_;refine oV ?_;refine nU ?_;refine oV ?_;refine oN (tC (cB ?_));refine qu (ι := Nat) [0,1] (.cons rfl (.cons rfl .nil)) (fun x => l.length - x) (fun x E0 => (5,.int .i64 (x : Nat)) :: E0) (fun x => St w (je [Item.row u 9 1 l.length (strs l)]) I [.row u 9 1 l.length (strs l)]) (fun x => x ≤ l.length ∧ memB s l = memB s (l.drop x)) (0) (sC rfl (sC rfl (sC rfl sN))) (fun _ h => h) (⟨Nat.zero_le _,rfl⟩) ?_;rintro i ⟨hi,hF⟩
 try dsimp only
 refine cS (sR ?_);iterate 2 refine oV ?_
 refine yi trivial rfl underlying25 rfl (by repeat constructor) ?_;refine oV ?_;refine nT ?_;refine cC rfl (fun h1 => ?_) (fun h1 => ?_)
 ·
  have f1 := h1;try simp only [bl] at f1
  obtain ⟨x,hx⟩ : ∃ x,l[i]? = some x := ⟨l[i]'(by omega),List.getElem?_eq_getElem (by omega)⟩
  rw [q1m hx] at hF
  refine cK (tC (cS (cB (sR ?_))));iterate 2 refine oV ?_
  refine yp trivial rfl underlying25 sizeOf9 rfl (by repeat constructor) rfl (by omega) ?_;refine jl trivial rfl isAgg9 (by repeat constructor) rfl (by rw [Int.toNat_natCast,Nat.mul_one]; exact q1l hx) ?_;iterate 2 refine oV ?_
  refine nT ?_;refine cC rfl (fun h2 => ?_) (fun h2 => ?_)
  ·
   have f2 := h2;try simp only [bl] at f2
   skip
   refine sR ?_;refine oV ?_;refine oN (tC (cT (qd (tR (tR (qd (tR ?_)))))));refine ret1 rfl rfl ?_;exact fun w' hw' => ⟨I,[snI u l],hw',Ext.refl _ _,rfl,by rw [hF,decide_eq_true (show s = x from (qgh f2).symm)]; rfl,rfl⟩
  have f2 := h2;try simp only [bl] at f2
  refine cK (qe (tC (cR ?_)));refine oV ?_
  (refine qf trivial rfl rfl rfl ?_ ?_; (omega))
  refine oV ?_;refine oN ?_;exact qj (i + 1) (sC rfl (sC rfl (sC rfl sN))) (fun _ h => h) (by show l.length - (i + 1) < l.length - i; omega) ⟨by show i + 1 ≤ _; omega,by rw [hF,decide_eq_false (fun e => f2 (by rw [e]))]; rfl⟩
 have f1 := h1;try simp only [bl] at f1
 refine qq (qc (qc (qp rfl (tC (sR ?_)))));refine oV ?_;refine nE ?_;refine ret1 rfl rfl ?_;exact fun w' hw' => ⟨I,[snI u l],hw',Ext.refl _ _,rfl,by rw [hF,List.drop_of_length_le (by omega)]; rfl,rfl⟩
theorem qgi (s : ByteArray) : ∀ (K : KN), memB s (K.map Prod.fst) = hasK s K
 | [] => rfl
 | (t, p) :: K => by
   have ih := qgi s K
   unfold hasK at ih ⊢
   rw [List.map_cons,memB,getK,ih]
   by_cases h : s = t
   · rw [decide_eq_true h,if_pos h]; rfl
   · rw [decide_eq_false h,if_neg h]; rfl
theorem qr1 (K : KN) (s : ByteArray) (p : PL) : (K ++ [(s,p)]).map Prod.fst = K.map Prod.fst ++ [s] := by rw [List.map_append]; rfl
def kyI (u : Value) (K : KN) : Tw.Item := snI u (K.map Prod.fst)
theorem qr2 (vi vl vo va : Value) (p : qx) (ns : List qk) {I : Hp} (hp : y5 I vi vl vo va p ns) (hf : ∀ o ∈ ns, o.c.few 3000) :
   Fun prog 21 [.agg #[vi,vl,vo,va]] I [] (fun v _ _ => v = .tuple #[.string (vv p).name,.int .i64 (vv p).err]) := by
 have hsi := hp.si
 have hsl := hp.sl
 have hso := hp.so
 have hsa := hp.sa
 have hlo := jf p.outs
 have hli := jf p.ins
 have hla := z4 ns
 have hal : p.all.length = ns.length := by rw [← hp.eq,List.length_map]
 have hll : (p.lets.map LetC.cells).length = p.lets.length := List.length_map _
 have hri := q1g vi vl vo va p ns hp hf
 rw [q05] at hri
 have hkl : ∀ K : KN,(K.map Prod.fst).length = K.length := fun K => List.length_map _
 intro w hw
 refine q9 _ func21 rfl ntmps21 rfl ?_ hw;refine sR ?_;refine qo trivial rfl rfl rfl (fun b1 => ?_);iterate 2 refine oV ?_
 refine nS ?_;refine oA isAgg29 sizeOf29 ?_;refine oQ call36 rfl hri ?_;refine oV ?_;refine nU ?_;iterate 2 refine oV ?_
 refine nT ?_;refine cC rfl (fun h1 => ?_) (fun h1 => ?_)
 ·
  have f1 := h1;try simp only [bl] at f1
  have ht : (tZ p).isSome = false := by simpa using h1
  refine sR ?_;iterate 2 refine oV ?_
  refine nF ?_;refine ret2 rfl rfl rfl ?_;refine qg ?_; rw [qgf ht]
 have f1 := h1;try simp only [bl] at f1
 have ht : (tZ p).isSome = true := by
   cases e : (tZ p).isSome with
   | true => rfl
   | false => rw [e] at h1; cases h1
 obtain ⟨l,hl⟩ := qex.1 ht
 have hgo := qld hl
 have hfe := hl.few
 have hlb : p.lets.length ≤ 40 := by rw [hl.lets,qb4]; exact hl.few.1
 have hob := hl.outs.2.2
 have hib := hl.ins.2.2
 refine kS ?_;refine oV ?_;refine nU ?_;refine oV ?_;refine oN (tC (cB ?_));refine qu (ι := Nat × KN × Value) [1] (.cons rfl .nil) (fun x => p.ins.length - x.1) (fun x E0 => (5,x.2.2) :: (6,.int .i64 (x.1 : Nat)) :: E0) (fun x => St w [] I [kyI x.2.2 x.2.1,.box b1 (.cells #[vi,vl,vo,va] 29 (0,0))]) (fun x => x.1 ≤ p.ins.length ∧ insZ p.ins 0 [] = insZ (p.ins.drop x.1) x.1 x.2.1 ∧ x.2.1.length ≤ x.1) ((0,[],.slice none 0 0)) (sC rfl (sC rfl (sC rfl sN))) (fun _ h => (h.nilRow 9 1)) (⟨Nat.zero_le _,rfl,Nat.le_refl _⟩) ?_;rintro ⟨i,K1,u⟩ ⟨hi,hF,hK1⟩
 try dsimp only
 simp only at hi hF hK1; have hk1 := hkl K1
 refine cS (sR ?_);refine oV ?_;refine oF 0 underlying29 sizeOf25 ?_;refine oL isAgg25 ?_;refine qw trivial rfl underlying25 rfl (hsi) ?_;refine oV ?_;refine nT ?_;refine cC rfl (fun h2 => ?_) (fun h2 => ?_)
 ·
  have f2 := h2;try simp only [bl] at f2
  obtain ⟨s,hs⟩ : ∃ s,p.ins[i]? = some s := ⟨p.ins[i]'(by omega),List.getElem?_eq_getElem (by omega)⟩
  rw [qru hs] at hF
  refine cK (tC (cS (cB (sR ?_))));refine oV ?_;refine oF 0 underlying29 sizeOf25 ?_;refine oL isAgg25 ?_;refine oV ?_;refine vk trivial rfl underlying25 sizeOf9 rfl (hsi) rfl (by omega) ?_;refine q8 trivial rfl isAgg9 rfl (zn hsi hs) ?_;refine oC trivial rfl call37 rfl (qh5 u (K1.map Prod.fst) s (by rw [hkl]; omega)) (by repeat constructor) ?_;rintro _ _ _ hxa ⟨rfl,rfl,rfl⟩;refine oV ?_;refine oN (tC (cS (cS ?_)))
  rw [qgi]
  refine cR ?_;refine oV ?_;refine nT ?_;refine cC rfl (fun h3 => ?_) (fun h3 => ?_)
  ·
   have f3 := h3;try simp only [bl] at f3
   rw [if_pos h3] at hF
   refine sR ?_;refine oF 0 underlying29 sizeOf25 ?_;refine oL isAgg25 ?_;refine oV ?_;refine vk trivial rfl underlying25 sizeOf9 rfl (hsi) rfl (by omega) ?_;refine q8 trivial rfl isAgg9 rfl (zn hsi hs) ?_;iterate 2 refine oV ?_
   refine oN (tC (cT (tR (qd (tR (tR (qd (tR ?_))))))));refine ret2 rfl rfl rfl ?_;refine qg ?_; rw [qgg ht hF (by decide)]
  have f3 := h3;try simp only [bl] at f3
  rw [h3,if_neg (by decide)] at hF
  refine cK (tC (cR ?_));refine oV ?_;refine oF 0 underlying29 sizeOf25 ?_;refine oL isAgg25 ?_;refine oV ?_;refine vk trivial rfl underlying25 sizeOf9 rfl (hsi) rfl (by omega) ?_;refine q8 trivial rfl isAgg9 rfl (zn hsi hs) ?_;refine oB underlying25 sizeOf9 zeroValue9 fun b46 => ?_;refine oD underlying25 qci fun v47 => ?_;refine oV ?_;refine oN (qe (tC (cR ?_)));refine oV ?_
  (refine qf trivial rfl rfl rfl ?_ ?_; (omega))
  refine oV ?_;refine oN ?_;exact qj (i + 1,K1 ++ [(s,⟨false,(i : Nat)⟩)],v47) (sC rfl (sC rfl (sC rfl sN))) (fun _ h => by unfold kyI snI; rw [qr1,qr0,List.length_append]; exact h.sort (by repeat constructor)) (by show p.ins.length - (i + 1) < p.ins.length - i; omega) ⟨by show i + 1 ≤ _; omega,hF,by show (K1 ++ [_]).length ≤ i + 1; rw [List.length_append]; show K1.length + 1 ≤ _; omega⟩
 have f2 := h2;try simp only [bl] at f2
 have hin : p.ins.drop i = [] := List.drop_of_length_le (by omega)
 rw [hin] at hF
 have hi2 : insZ p.ins 0 [] = (⟨#[]⟩,0,K1) := hF
 refine qq (qc (qc (qp rfl (tC (sR ?_)))));refine oV ?_;refine nU ?_;refine oV ?_;refine oN (tC (cB ?_));refine qu (ι := Nat × Int × KN × Value × List ByteArray) [1] (.cons rfl .nil) (fun x => p.lets.length - x.1) (fun x E0 => (5,x.2.2.2.1) :: (8,.int .i64 x.2.1) :: (9,.int .i64 (x.1 : Nat)) :: E0) (fun x => St w [] I [kyI x.2.2.2.1 x.2.2.1,.box b1 (.cells #[vi,vl,vo,va] 29 (0,0))]) (fun x => x.1 ≤ p.lets.length ∧ 0 ≤ x.2.1 ∧ x.2.1 ≤ ns.length ∧ bgGo p.all (p.lets.drop x.1) x.2.1 = some (p.all.length : Int) ∧ yg p.all p.lets 0 0 K1 [] = yg p.all (p.lets.drop x.1) x.1 x.2.1 x.2.2.1 x.2.2.2.2 ∧ x.2.2.1.length ≤ 40 + x.1) ((0,0,K1,u,[])) (sC rfl (sC rfl (sC rfl (sC rfl sN)))) (fun _ h => h) (⟨Nat.zero_le _,Int.le_refl _,by show (0 : Int) ≤ ns.length; omega,hgo,rfl,by show K1.length ≤ 40 + 0; omega⟩) ?_;rintro ⟨i,fr,K2,u2,L1⟩ ⟨hi,hfr0,hfr1,hg,hF,hK2⟩
 try dsimp only
 simp only at hi hfr0 hfr1 hg hF hK2; have hk2 := hkl K2
 refine cS (sR ?_);refine oV ?_;refine oF 1 underlying29 sizeOf26 ?_;refine oL isAgg26 ?_;refine qw trivial rfl underlying26 rfl (hsl) ?_;refine oV ?_;refine nT ?_;refine cC rfl (fun h4 => ?_) (fun h4 => ?_)
 ·
  have f4 := h4;try simp only [bl] at f4
  obtain ⟨c,hc⟩ : ∃ c,p.lets[i]? = some c := ⟨p.lets[i]'(by omega),List.getElem?_eq_getElem (by omega)⟩
  have hdr : p.lets.drop i = c :: p.lets.drop (i + 1) := by rw [List.drop_eq_getElem_cons (List.getElem?_eq_some_iff.1 hc).1,(List.getElem?_eq_some_iff.1 hc).2]
  rw [qrw hc] at hF
  rw [hdr,qe5] at hg
  by_cases hcd : yk c.name = true ∧ fr ≤ c.root ∧ c.root < p.all.length ∧ begZ p.all fr p.all.length c.root = fr
  case' neg => rw [if_neg hcd] at hg; cases hg
  rw [if_pos hcd] at hg
  obtain ⟨_,c2,c3,_⟩ := hcd
  obtain ⟨seg,hseg⟩ : ∃ seg,seg = (ns.take (c.root + 1).toNat).drop fr.toNat := ⟨_,rfl⟩
  have hsegl : (seg.length : Int) = c.root + 1 - fr := by rw [hseg,List.length_drop,List.length_take]; omega
  have hsc : segZ p.all fr (c.root + 1) = seg.map qk.c := by rw [hseg,← hp.eq]; unfold segZ; rw [List.map_drop,List.map_take]
  rw [hsc] at hF
  refine cK (tC (cS (cB (sR ?_))));refine oF 1 underlying29 sizeOf26 ?_;refine oL isAgg26 ?_;refine oV ?_;refine vk trivial rfl underlying26 sizeOf72 rfl (hsl) rfl (by omega) ?_;refine y7 trivial rfl isAgg72 sizeOf72 rfl rfl (qbq hsl hc) ?_;refine qh trivial rfl zeroValue72 rfl (fun b10 => ?_);refine oS sizeOf72 ?_;refine nU ?_;iterate 2 refine oV ?_
  refine oN (tC (cB ?_));refine qu (ι := Nat × Int × List ByteArray) [1,5,9,10] (.cons rfl (.cons rfl (.cons rfl (.cons rfl .nil)))) (fun x => seg.length - x.1) (fun x E0 => (11,.int .i64 x.2.1) :: E0) (fun x => St w [] I [kyI u2 K2,.box b10 (.cells #[.string c.name,.int .i64 c.root] 72 (0,0)),.box b1 (.cells #[vi,vl,vo,va] 29 (0,0))]) (fun x => x.1 ≤ seg.length ∧ jj K2 (seg.map qk.c) L1 = jj K2 ((seg.drop x.1).map qk.c) x.2.2 ∧ x.2.1 = fr + (x.1 : Nat)) ((0,fr,L1)) (sC rfl (sC rfl (sC rfl (sC rfl (sC rfl sN))))) (fun _ h => h.sort (by repeat constructor)) (⟨Nat.zero_le _,rfl,by show fr = fr + 0; omega⟩) ?_;rintro ⟨j,k,L2⟩ ⟨hj,hF2,hkj⟩
  try dsimp only
  simp only at hj hF2 hkj
  refine cS (sR ?_);refine oV ?_;refine oF 1 underlying72 sizeOf3 ?_;refine oL isAgg3 ?_;refine oV ?_;refine nT ?_;refine cC rfl (fun h5 => ?_) (fun h5 => ?_)
  ·
   have f5 := h5;try simp only [bl] at f5
   obtain ⟨o,ho⟩ : ∃ o,seg[j]? = some o := ⟨seg[j]'(by omega),List.getElem?_eq_getElem (by omega)⟩
   have ho2 : ns[fr.toNat + j]? = some o := by
     have h9 := ho
     rw [hseg,List.getElem?_drop,List.getElem?_take] at h9
     split at h9
     · exact h9
     · cases h9
   have hjn := (List.getElem?_eq_some_iff.1 ho2).1
   have hix : k.toNat = fr.toNat + j := by omega
   rw [qrv ho] at hF2
   refine cK (tC (cS (cB (sR ?_))));refine oV ?_;refine oF 3 underlying29 sizeOf27 ?_;refine oL isAgg27 ?_;refine oV ?_;refine vk trivial rfl underlying27 sizeOf67 rfl (hsa) rfl (by omega) ?_;refine oF 4 underlying67 sizeOf9 ?_;refine q8 trivial rfl isAgg9 rfl ((by rw [hix]; exact qa6 hsa ho2 4 _ rfl)) ?_;refine oC trivial rfl call37 rfl (qh5 u2 (K2.map Prod.fst) o.c.name (by omega)) (by repeat constructor) ?_;rintro _ _ _ hxa ⟨rfl,rfl,rfl⟩;refine oV ?_;refine oN (tC (cS ?_))
   rw [qgi]
   refine cR ?_;refine oF 3 underlying29 sizeOf27 ?_;refine oL isAgg27 ?_;refine oV ?_;refine vk trivial rfl underlying27 sizeOf67 rfl (hsa) rfl (by omega) ?_;refine oF 0 underlying67 sizeOf3 ?_;refine q8 trivial rfl isAgg3 rfl ((by rw [hix]; exact qa6 hsa ho2 0 _ rfl)) ?_;refine oV ?_;refine' oY (fun hb82 => ?_) ?_;rotate_left
   ·
    have fb82 := hb82
    try simp only [bl] at fb82
    iterate 2 refine gV hb82 ?_
    refine oN ?_;exact qa rfl
   refine nT ?_;refine cC rfl (fun h6 => ?_) (fun h6 => ?_)
   ·
    have f6 := h6;try simp only [bl] at f6
    have hk0 : o.c.kind = 0 ∧ hasK o.c.name K2 = false := by simpa using h6
    rw [if_neg (not_not_intro hk0.1),hk0.2,if_neg (by decide)] at hF2
    rw [hF2] at hF
    refine sR ?_;refine oF 3 underlying29 sizeOf27 ?_;refine oL isAgg27 ?_;refine oV ?_;refine vk trivial rfl underlying27 sizeOf67 rfl (hsa) rfl (by omega) ?_;refine oF 4 underlying67 sizeOf9 ?_;refine q8 trivial rfl isAgg9 rfl ((by rw [hix]; exact qa6 hsa ho2 4 _ rfl)) ?_;iterate 2 refine oV ?_
    refine oN (tC (cT (qd (tR (tR (qd (tR (qd (tR (tR (qd (tR ?_))))))))))));refine ret2 rfl rfl rfl ?_;refine qg ?_; rw [qe6 ht hi2 hF (by decide)]
   have f6 := h6;try simp only [bl] at f6
   have hk0 : o.c.kind = 0 → hasK o.c.name K2 = true := by simpa using h6
   refine cK (qe (tC (cR ?_)));refine oV ?_
   (refine qf trivial rfl rfl rfl ?_ ?_; (omega))
   refine oV ?_;refine oN ?_
   by_cases hk9 : o.c.kind = 0
   · rw [if_neg (not_not_intro hk9), if_pos (hk0 hk9)] at hF2
     exact qj (j + 1,k + 1,L2 ++ [o.c.name]) (sC rfl (sC rfl (sC rfl (sC rfl (sC rfl sN))))) (fun _ h => h.sort (by repeat constructor)) (by show seg.length - (j + 1) < seg.length - j; omega) ⟨by show j + 1 ≤ _; omega,hF2,by show k + 1 = fr + ((j + 1 : Nat) : Int); omega⟩
   · rw [if_pos hk9] at hF2
     exact qj (j + 1,k + 1,L2) (sC rfl (sC rfl (sC rfl (sC rfl (sC rfl sN))))) (fun _ h => h.sort (by repeat constructor)) (by show seg.length - (j + 1) < seg.length - j; omega) ⟨by show j + 1 ≤ _; omega,hF2,by show k + 1 = fr + ((j + 1 : Nat) : Int); omega⟩
  have f5 := h5;try simp only [bl] at f5
  have hjn : seg.drop j = [] := List.drop_of_length_le (by omega)
  rw [hjn] at hF2
  have hF3 : jj K2 (seg.map qk.c) L1 = (none,L2) := hF2
  rw [hF3] at hF
  dsimp only at hF
  refine qq (qc (qc (qp rfl (tC (sR ?_)))));refine oF 1 underlying72 sizeOf3 ?_;refine oL isAgg3 ?_
  (refine qf trivial rfl rfl rfl ?_ ?_; (omega))
  refine oV ?_;refine nS ?_;refine oV ?_;refine oF 0 underlying72 sizeOf9 ?_;refine oL isAgg9 ?_;refine oC trivial rfl call37 rfl (qh5 u2 (K2.map Prod.fst) c.name (by omega)) (by repeat constructor) ?_;rintro _ _ _ hxa ⟨rfl,rfl,rfl⟩;refine oV ?_;refine oN (tC (cS (cS ?_)))
  rw [qgi]
  refine cR ?_;refine oV ?_;refine nT ?_;refine cC rfl (fun h7 => ?_) (fun h7 => ?_)
  ·
   have f7 := h7;try simp only [bl] at f7
   rw [if_pos h7] at hF
   refine sR ?_;refine oF 0 underlying72 sizeOf9 ?_;refine oL isAgg9 ?_;iterate 2 refine oV ?_
   refine oN (tC (cT (tR (qd (tR (tR (qd (tR ?_))))))));refine ret2 rfl rfl rfl ?_;refine qg ?_; rw [qe6 ht hi2 hF (by decide)]
  have f7 := h7;try simp only [bl] at f7
  rw [h7,if_neg (by decide)] at hF
  refine cK (tC (cR ?_));refine oV ?_;refine oF 0 underlying72 sizeOf9 ?_;refine oL isAgg9 ?_;refine oB underlying25 sizeOf9 zeroValue9 fun b105 => ?_;refine oD underlying25 qci fun v106 => ?_;refine oV ?_;refine oN (qe (tC (cR ?_)));refine oV ?_
  (refine qf trivial rfl rfl rfl ?_ ?_; (omega))
  refine oV ?_;refine oN ?_;exact qj (i + 1,c.root + 1,K2 ++ [(c.name,⟨true,(i : Nat)⟩)],v106,L2) (sC rfl (sC rfl (sC rfl (sC rfl sN)))) (fun _ h => by unfold kyI snI; rw [qr1,qr0,List.length_append]; exact h.sort (by repeat constructor)) (by show p.lets.length - (i + 1) < p.lets.length - i; omega) ⟨by show i + 1 ≤ _; omega,by show 0 ≤ c.root + 1; omega,by show c.root + 1 ≤ _; omega,hg,hF,by show (K2 ++ [_]).length ≤ 40 + (i + 1); rw [List.length_append]; show K2.length + 1 ≤ _; omega⟩
 have f4 := h4;try simp only [bl] at f4
 have hin : p.lets.drop i = [] := List.drop_of_length_le (by omega)
 rw [hin] at hF
 have hz : yg p.all p.lets 0 0 K1 [] = (⟨#[]⟩,0,K2,L1) := hF
 have hrz := qh4 ht hi2 hz
 refine qq (qc (qc (qp rfl (tC (cS (sR ?_))))));refine oV ?_;refine oN (tC (cB ?_));refine qu (ι := Nat × List ByteArray) [1,5] (.cons rfl (.cons rfl .nil)) (fun x => p.outs.length - x.1) (fun x E0 => (14,.int .i64 (x.1 : Nat)) :: E0) (fun x => St w [] I [kyI u2 K2,.box b1 (.cells #[vi,vl,vo,va] 29 (0,0))]) (fun x => x.1 ≤ p.outs.length ∧ ousZ K2 p.outs L1 = ousZ K2 (p.outs.drop x.1) x.2) ((0,L1)) (sC rfl (sC rfl (sC rfl sN))) (fun _ h => h) (⟨Nat.zero_le _,rfl⟩) ?_;rintro ⟨i4,L3⟩ ⟨hi4,hF4⟩
 try dsimp only
 simp only at hi4 hF4
 refine cS (sR ?_);refine oV ?_;refine oF 2 underlying29 sizeOf25 ?_;refine oL isAgg25 ?_;refine qw trivial rfl underlying25 rfl (hso) ?_;refine oV ?_;refine nT ?_;refine cC rfl (fun h8 => ?_) (fun h8 => ?_)
 ·
  have f8 := h8;try simp only [bl] at f8
  obtain ⟨s,hs⟩ : ∃ s,p.outs[i4]? = some s := ⟨p.outs[i4]'(by omega),List.getElem?_eq_getElem (by omega)⟩
  rw [qry hs] at hF4
  refine cK (tC (cS (cB (sR ?_))));refine oV ?_;refine oF 2 underlying29 sizeOf25 ?_;refine oL isAgg25 ?_;refine oV ?_;refine vk trivial rfl underlying25 sizeOf9 rfl (hso) rfl (by omega) ?_;refine q8 trivial rfl isAgg9 rfl (zn hso hs) ?_;refine oC trivial rfl call37 rfl (qh5 u2 (K2.map Prod.fst) s (by omega)) (by repeat constructor) ?_;rintro _ _ _ hxa ⟨rfl,rfl,rfl⟩;refine oV ?_;refine oN (tC (cS ?_))
  rw [qgi]
  refine cR ?_;iterate 2 refine oV ?_
  refine nT ?_;refine cC rfl (fun h9 => ?_) (fun h9 => ?_)
  ·
   have f9 := h9;try simp only [bl] at f9
   have hh : hasK s K2 = false := by simpa using h9
   rw [hh,if_neg (by decide)] at hF4
   rw [hF4] at hrz
   refine sR ?_;refine oF 2 underlying29 sizeOf25 ?_;refine oL isAgg25 ?_;refine oV ?_;refine vk trivial rfl underlying25 sizeOf9 rfl (hso) rfl (by omega) ?_;refine q8 trivial rfl isAgg9 rfl (zn hso hs) ?_;iterate 2 refine oV ?_
   refine oN (tC (cT (qd (tR (tR (qd (tR ?_)))))));refine ret2 rfl rfl rfl ?_;refine qg ?_; rw [hrz]
  have f9 := h9;try simp only [bl] at f9
  have hh : hasK s K2 = true := by simpa using h9
  rw [if_pos hh] at hF4
  refine cK (qe (tC (cR ?_)));refine oV ?_
  (refine qf trivial rfl rfl rfl ?_ ?_; (omega))
  refine oV ?_;refine oN ?_;exact qj (i4 + 1,L3 ++ [s]) (sC rfl (sC rfl (sC rfl sN))) (fun _ h => h) (by show p.outs.length - (i4 + 1) < p.outs.length - i4; omega) ⟨by show i4 + 1 ≤ _; omega,hF4⟩
 have f8 := h8;try simp only [bl] at f8
 have hin4 : p.outs.drop i4 = [] := List.drop_of_length_le (by omega)
 rw [hin4] at hF4
 have hF5 : ousZ K2 p.outs L1 = (⟨#[]⟩,0,L3) := hF4
 rw [hF5] at hrz
 refine qq (qc (qc (qp rfl (tC (sR ?_)))));iterate 2 refine oV ?_
 refine nE ?_;refine ret2 rfl rfl rfl ?_;refine qg ?_; rw [hrz]
def yo (b : Bool) : List ByteArray → Nat → KN
 | [],_ => []
 | s :: l,i => (s,⟨b,(i : Nat)⟩) :: yo b l (i + 1)
theorem qlf : ∀ {l : List ByteArray} {i : Nat} {K K' : KN} {n : ByteArray}, insZ l i K = (n, 0, K') → K' = K ++ yo false l i
 | [], i, K, K', n, h => by
   have := congrArg (fun x => x.2.2) h
   rw [yo,List.append_nil]; exact this.symm
 | s :: l, i, K, K', n, h => by
   rw [insZ] at h
   split at h
   · have := congrArg (fun x => x.2.1) h
     simp at this
   · rw [qlf h,yo,List.append_assoc]; rfl
def qaj : List NodeC → List ByteArray
 | [] => []
 | c :: r => if c.kind ≠ 0 then qaj r else c.name :: qaj r
theorem qr3 : ∀ (a b : List NodeC), qaj (a ++ b) = qaj a ++ qaj b
 | [],b => rfl
 | c :: a, b => by
   rw [List.cons_append,qaj,qaj,qr3 a b]
   split <;> rfl
theorem qlg {K : KN} : ∀ {r : List NodeC} {L L' : List ByteArray}, jj K r L = (none, L') → L' = L ++ qaj r
 | [], L, L', h => by
   have := congrArg Prod.snd h
   rw [qaj,List.append_nil]; exact this.symm
 | c :: r, L, L', h => by
   rw [jj] at h
   rw [qaj]
   split at h
   · rename_i hk
     rw [if_pos hk]; exact qlg h
   · rename_i hk
     rw [if_neg hk]
     split at h
     · rw [qlg h,List.append_assoc]; rfl
     · have := congrArg Prod.fst h
       cases this
theorem q1n {all : List NodeC} {fr hi : Int} (h0 : 0 ≤ fr) (h : fr ≤ hi) (h2 : hi ≤ all.length) : segZ all fr hi ++ all.drop hi.toNat = all.drop fr.toNat := by
 unfold segZ
 have e := List.take_append_drop hi.toNat all
 conv => rhs; rw [← e]
 rw [List.drop_append,List.length_take,show fr.toNat - min hi.toNat all.length = 0 by omega,List.drop_zero]
theorem qr4 {all : List NodeC} : ∀ {ls : List LetC} {i : Nat} {fr : Int} {K K' : KN} {L L' : List ByteArray} {n : ByteArray}, yg all ls i fr K L = (n, 0, K', L') → bgGo all ls fr = some (all.length : Int) → 0 ≤ fr → K' = K ++ yo true (ls.map LetC.name) i ∧ L' = L ++ qaj (all.drop fr.toNat)
 | [], i, fr, K, K', L, L', n, h, hg, h0 => by
   have h1 := congrArg (fun x => x.2.2.1) h
   have h2 := congrArg (fun x => x.2.2.2) h
   have h3 : fr = (all.length : Int) := Option.some.inj hg
   refine ⟨by rw [List.map_nil,yo,List.append_nil]; exact h1.symm,?_⟩
   rw [h3,Int.toNat_natCast,List.drop_length,qaj,List.append_nil]
   exact h2.symm
 | c :: ls, i, fr, K, K', L, L', n, h, hg, h0 => by
   rw [yg] at h
   rw [qe5] at hg
   by_cases hcd : yk c.name = true ∧ fr ≤ c.root ∧ c.root < all.length ∧ begZ all fr all.length c.root = fr
   · rw [if_pos hcd] at hg
     cases hn : jj K (segZ all fr (c.root + 1)) L with
     | mk e L1 =>
       rw [hn] at h
       cases e with
       | some m =>
         have := congrArg (fun x => x.2.1) h
         simp at this
       | none =>
         dsimp only at h
         split at h
         · have := congrArg (fun x => x.2.1) h
           simp at this
         · obtain ⟨h1, h2⟩ := qr4 h hg (by omega)
           refine ⟨by rw [h1,List.map_cons,yo,List.append_assoc]; rfl,?_⟩
           rw [h2,qlg hn,List.append_assoc,← qr3,q1n h0 (by omega) (by omega)]
   · rw [if_neg hcd] at hg; cases hg
theorem qr5 {K : KN} : ∀ {l L L' : List ByteArray} {n : ByteArray}, ousZ K l L = (n, 0, L') → L' = L ++ l
 | [], L, L', n, h => by
   have := congrArg (fun x => x.2.2) h
   rw [List.append_nil]; exact this.symm
 | s :: l, L, L', n, h => by
   rw [ousZ] at h
   split at h
   · rw [qr5 h,List.append_assoc]; rfl
   · have := congrArg (fun x => x.2.1) h
     simp at this
theorem qr6 {p : qx} (h : (vv p).err = 0) : (vv p).K = yo false p.ins 0 ++ yo true (p.lets.map LetC.name) 0 ∧ (vv p).L = qaj p.all ++ p.outs := by
 cases ht : (tZ p).isSome with
 | false => rw [qgf ht] at h; cases h
 | true =>
   obtain ⟨l,hl⟩ := qex.1 ht
   have hgo := qld hl
   cases hi : insZ p.ins 0 [] with
   | mk n x =>
     obtain ⟨e,K⟩ := x
     by_cases he : e = 0
     · subst he
       cases hz : yg p.all p.lets 0 0 K [] with
       | mk m y =>
         obtain ⟨e2,K2,L2⟩ := y
         by_cases he2 : e2 = 0
         · subst he2
           have hr := qh4 ht hi hz
           rw [hr] at h ⊢
           dsimp only at h ⊢
           obtain ⟨h1,h2⟩ := qr4 hz hgo (Int.le_refl _)
           cases ho : ousZ K2 p.outs L2 with
           | mk n3 z =>
             obtain ⟨e3,L3⟩ := z
             rw [ho] at h
             dsimp only at h
             subst h
             refine ⟨by rw [h1,qlf hi]; rfl,?_⟩
             show L3 = _
             rw [qr5 ho,h2]
             rfl
         · rw [qe6 ht hi hz he2] at h; exact absurd h he2
     · rw [qgg ht hi he] at h; exact absurd h he
theorem qr7 (s : ByteArray) : ∀ (A B : KN), getK s (A ++ B) = match getK s A with
   | some p => some p
   | none => getK s B
 | [],B => rfl
 | (t, p) :: A, B => by
   rw [List.cons_append,getK,getK]
   split
   · rfl
   · exact qr7 s A B
theorem qr8 {b : Bool} {l : List ByteArray} {i : Nat} {x : ByteArray} (h : l[i]? = some x) (s : ByteArray) : getK s (yo b (l.drop i) i) = if s = x then some ⟨b,(i : Nat)⟩ else getK s (yo b (l.drop (i + 1)) (i + 1)) := by
 obtain ⟨h1,h2⟩ := List.getElem?_eq_some_iff.1 h
 rw [List.drop_eq_getElem_cons h1,h2]
 rfl
theorem q1o {p : qx} {s : ByteArray} (h : (vv p).err ≠ 0) : v8 p s = (false,0,false) := if_neg fun hh => h hh.1
theorem qh6 {p : qx} {s : ByteArray} (h : (vv p).err = 0) : v8 p s = match getK s (yo false p.ins 0) with
   | some q => (q.l,q.i,true)
   | none => match getK s (yo true (p.lets.map LetC.name) 0) with
     | some q => (q.l,q.i,true)
     | none => (false,0,false) := by
 unfold v8 hasK
 rw [(qr6 h).1,qr7]
 cases getK s (yo false p.ins 0) with
 | some q => rw [if_pos ⟨h,rfl⟩]; rfl
 | none =>
   dsimp only
   cases getK s (yo true (p.lets.map LetC.name) 0) with
   | some q => rw [if_pos ⟨h,rfl⟩]; rfl
   | none => rw [if_neg (fun hh => by cases hh.2)]
theorem qr9 (vi vl vo va : Value) (p : qx) (ns : List qk) (s : ByteArray) {I : Hp} (hp : y5 I vi vl vo va p ns) (hf : ∀ o ∈ ns, o.c.few 3000) :
   Fun prog 12 [.agg #[vi,vl,vo,va],.string s] I [] (fun v _ _ => v = .tuple #[.bool (v8 p s).1,.int .i64 (v8 p s).2.1,.bool (v8 p s).2.2]) := by
 have hsi := hp.si
 have hsl := hp.sl
 have hso := hp.so
 have hsa := hp.sa
 have hli := jf p.ins
 have hll : (p.lets.map LetC.cells).length = p.lets.length := List.length_map _
 have hmi := hsi.most
 have hml := hsl.most
 rw [hli] at hmi
 rw [hll] at hml
 unfold maxLen at hmi hml
 intro w hw
 refine qv _ func12 rfl ntmps12 rfl ?_ hw;refine sR ?_;refine qo trivial rfl rfl rfl (fun b2 => ?_);iterate 3 refine oV ?_
 refine nS ?_;refine oA isAgg29 sizeOf29 ?_;refine oQ call21 rfl (qr2 vi vl vo va p ns hp hf) ?_;iterate 5 refine oV ?_
 refine nU ?_;iterate 2 refine oV ?_
 refine nT ?_;refine cC rfl (fun h1 => ?_) (fun h1 => ?_)
 ·
  have f1 := h1;try simp only [bl] at f1
  have he : (vv p).err ≠ 0 := by simpa using h1
  have hz := q1o (s := s) he
  refine sR ?_;iterate 3 refine oV ?_
  refine nF ?_;refine ret3 rfl rfl rfl rfl ?_;refine qg ?_; rw [hz]
 have f1 := h1;try simp only [bl] at f1
 have he : (vv p).err = 0 := by simpa using h1
 have hz := qh6 (s := s) he
 refine cK (tC (cS (sR ?_)));refine oV ?_;refine oN (tC (cB ?_));refine qu (ι := Nat) [1,2] (.cons rfl (.cons rfl .nil)) (fun x => p.ins.length - x) (fun x E0 => (9,.int .i64 (x : Nat)) :: E0) (fun x => St w [] I [.box b2 (.cells #[vi,vl,vo,va] 29 (0,0))]) (fun x => x ≤ p.ins.length ∧ getK s (yo false p.ins 0) = getK s (yo false (p.ins.drop x) x)) (0) (sC rfl (sC rfl (sC rfl sN))) (fun _ h => h) (⟨Nat.zero_le _,rfl⟩) ?_;rintro i ⟨hi,hF⟩
 try dsimp only
 refine cS (sR ?_);refine oV ?_;refine oF 0 underlying29 sizeOf25 ?_;refine oL isAgg25 ?_;refine qw trivial rfl underlying25 rfl (hsi) ?_;refine oV ?_;refine nT ?_;refine cC rfl (fun h2 => ?_) (fun h2 => ?_)
 ·
  have f2 := h2;try simp only [bl] at f2
  obtain ⟨x,hx⟩ : ∃ x,p.ins[i]? = some x := ⟨p.ins[i]'(by omega),List.getElem?_eq_getElem (by omega)⟩
  rw [qr8 hx] at hF
  refine cK (tC (cS (cB (sR ?_))));refine oF 0 underlying29 sizeOf25 ?_;refine oL isAgg25 ?_;refine oV ?_;refine vk trivial rfl underlying25 sizeOf9 rfl (hsi) rfl (by omega) ?_;refine q8 trivial rfl isAgg9 rfl (zn hsi hx) ?_;iterate 2 refine oV ?_
  refine nT ?_;refine cC rfl (fun h3 => ?_) (fun h3 => ?_)
  ·
   have f3 := h3;try simp only [bl] at f3
   rw [if_pos (qgh f3).symm] at hF
   rw [hF] at hz
   refine sR ?_;iterate 4 refine oV ?_
   refine oN (tC (cT (qd (tR (tR (qd (tR ?_)))))));refine ret3 rfl rfl rfl rfl ?_;refine qg ?_; rw [hz]
  have f3 := h3;try simp only [bl] at f3
  refine cK (qe (tC (cR ?_)));refine oV ?_
  (refine qf trivial rfl rfl rfl ?_ ?_; (omega))
  refine oV ?_;refine oN ?_;exact qj (i + 1) (sC rfl (sC rfl (sC rfl sN))) (fun _ h => h) (by show p.ins.length - (i + 1) < p.ins.length - i; omega) ⟨by show i + 1 ≤ _; omega,by rw [hF,if_neg (fun e => f3 (by rw [e]))]⟩
 have f2 := h2;try simp only [bl] at f2
 rw [List.drop_of_length_le (show p.ins.length ≤ i by omega)] at hF
 have hF1 : getK s (yo false p.ins 0) = none := hF
 rw [hF1] at hz
 dsimp only at hz
 refine qq (qc (qc (qp rfl (tC (cS (sR ?_))))));refine oV ?_;refine oN (tC (cB ?_));refine qu (ι := Nat) [1,2] (.cons rfl (.cons rfl .nil)) (fun x => p.lets.length - x) (fun x E0 => (10,.int .i64 (x : Nat)) :: E0) (fun x => St w [] I [.box b2 (.cells #[vi,vl,vo,va] 29 (0,0))]) (fun x => x ≤ p.lets.length ∧ getK s (yo true (p.lets.map LetC.name) 0) = getK s (yo true ((p.lets.map LetC.name).drop x) x)) (0) (sC rfl (sC rfl (sC rfl sN))) (fun _ h => h) (⟨Nat.zero_le _,rfl⟩) ?_;rintro j ⟨hj,hG⟩
 try dsimp only
 refine cS (sR ?_);refine oV ?_;refine oF 1 underlying29 sizeOf26 ?_;refine oL isAgg26 ?_;refine qw trivial rfl underlying26 rfl (hsl) ?_;refine oV ?_;refine nT ?_;refine cC rfl (fun h4 => ?_) (fun h4 => ?_)
 ·
  have f4 := h4;try simp only [bl] at f4
  obtain ⟨c,hc⟩ : ∃ c,p.lets[j]? = some c := ⟨p.lets[j]'(by omega),List.getElem?_eq_getElem (by omega)⟩
  rw [qr8 (x := c.name) (by rw [List.getElem?_map,hc]; rfl)] at hG
  refine cK (tC (cS (cB (sR ?_))));refine oF 1 underlying29 sizeOf26 ?_;refine oL isAgg26 ?_;refine oV ?_;refine vk trivial rfl underlying26 sizeOf72 rfl (hsl) rfl (by omega) ?_;refine oF 0 underlying72 sizeOf9 ?_;refine q8 trivial rfl isAgg9 rfl (qbq hsl hc 0 _ rfl) ?_;iterate 2 refine oV ?_
  refine nT ?_;refine cC rfl (fun h5 => ?_) (fun h5 => ?_)
  ·
   have f5 := h5;try simp only [bl] at f5
   rw [if_pos (qgh f5).symm] at hG
   rw [hG] at hz
   refine sR ?_;iterate 4 refine oV ?_
   refine oN (tC (cT (qd (tR (tR (qd (tR ?_)))))));refine ret3 rfl rfl rfl rfl ?_;refine qg ?_; rw [hz]
  have f5 := h5;try simp only [bl] at f5
  refine cK (qe (tC (cR ?_)));refine oV ?_
  (refine qf trivial rfl rfl rfl ?_ ?_; (omega))
  refine oV ?_;refine oN ?_;exact qj (j + 1) (sC rfl (sC rfl (sC rfl sN))) (fun _ h => h) (by show p.lets.length - (j + 1) < p.lets.length - j; omega) ⟨by show j + 1 ≤ _; omega,by rw [hG,if_neg (fun e => f5 (by rw [e]))]⟩
 have f4 := h4;try simp only [bl] at f4
 rw [List.drop_of_length_le (show (p.lets.map LetC.name).length ≤ j by rw [List.length_map]; omega)] at hG
 have hG1 : getK s (yo true (p.lets.map LetC.name) 0) = none := hG
 rw [hG1] at hz
 refine qq (qc (qc (qp rfl (tC (sR ?_)))));iterate 3 refine oV ?_
 refine nE ?_;refine ret3 rfl rfl rfl rfl ?_;refine qg ?_; rw [hz]
def us (s : ByteArray) : ByteArray := s ++ ⟨#[95]⟩
theorem qsa {p : qx} (h : (vv p).err = 0) : ∃ (l : List (ByteArray × Ex)) (n m r : ByteArray) (K1 : KN) (L2 : List ByteArray),zm p l ∧ insZ p.ins 0 [] = (n,0,K1) ∧ yg p.all p.lets 0 0 K1 [] = (m,0,(vv p).K,L2) ∧ ousZ (vv p).K p.outs L2 = (r,0,(vv p).L) := by
 cases ht : (tZ p).isSome with
 | false => rw [qgf ht] at h; cases h
 | true =>
   obtain ⟨l,hl⟩ := qex.1 ht
   cases hi : insZ p.ins 0 [] with
   | mk n x =>
     obtain ⟨e,K⟩ := x
     by_cases he : e = 0
     · subst he
       cases hz : yg p.all p.lets 0 0 K [] with
       | mk m y =>
         obtain ⟨e2,K2,L2⟩ := y
         by_cases he2 : e2 = 0
         · subst he2
           have hr := qh4 ht hi hz
           rw [hr] at h ⊢
           dsimp only at h ⊢
           refine ⟨l,n,m,(ousZ K2 p.outs L2).1,K,L2,hl,rfl,hz,?_⟩
           rw [← h]
         · rw [qe6 ht hi hz he2] at h; exact absurd h he2
     · rw [qgg ht hi he] at h; exact absurd h he
def plcZ (p : qx) (pl : List Int) (s : ByteArray) : Int := if (v8 p s).1 = true then pl.getD ((p.lets.getD (v8 p s).2.1.toNat ⟨⟨#[]⟩,0⟩).root.toNat) 0 else (v8 p s).2.1
def opL (c : NodeC) (pl : List Int) : OpC := ⟨c.kind,if 2 ≤ c.kind then pl.getD c.a.toNat 0 else 0,if 2 ≤ c.kind ∧ c.kind ≤ 5 then pl.getD c.b.toNat 0 else 0,c.e,c.neg,c.n,c.d⟩
def yx (p : qx) : List NodeC → Nat → List Int → List OpC → List Int × List OpC
 | [],_,pl,ops => (pl,ops)
 | c :: r,i,pl,ops => if c.kind = 0 then yx p r (i + 1) (pl.set i (plcZ p pl c.name)) ops else yx p r (i + 1) (pl.set i ((p.ins.length : Int) + ops.length)) (ops ++ [opL c (pl.set i ((p.ins.length : Int) + ops.length))])
def z6 (p : qx) : List Int × List OpC := yx p p.all 0 (List.replicate p.all.length 0) []
def lowT (p : qx) : yr := ⟨p.ins.length,(z6 p).2,p.outs.map (plcZ p (z6 p).1)⟩
structure LowR where
 t : yr
 name : ByteArray
 err : Int
def noT : yr := ⟨0,[],[]⟩
def lowZ (p : qx) : LowR := if (vv p).err ≠ 0 then ⟨noT,(vv p).name,(vv p).err⟩ else if (vw (lowT p)).isSome = true then ⟨lowT p,⟨#[]⟩,0⟩ else ⟨noT,⟨#[]⟩,4⟩
def LowV (r : LowR) (v : Value) (I : Hp) : Prop := ∃ vo vu os,v = .tuple #[.agg #[.int .i64 r.t.ins,vo,vu],.string r.name,.int .i64 r.err] ∧ ji I vo vu r.t os ∧ ∀ o ∈ r.t.ops,OpC.few 3000 o
theorem qsb {p : qx} {l : List NodeC} {i : Nat} {c : NodeC} (h : l[i]? = some c) (pl : List Int) (ops : List OpC) : yx p (l.drop i) i pl ops = if c.kind = 0 then yx p (l.drop (i + 1)) (i + 1) (pl.set i (plcZ p pl c.name)) ops else yx p (l.drop (i + 1)) (i + 1) (pl.set i ((p.ins.length : Int) + ops.length)) (ops ++ [opL c (pl.set i ((p.ins.length : Int) + ops.length))]) := by
 obtain ⟨h1,h2⟩ := List.getElem?_eq_some_iff.1 h
 rw [List.drop_eq_getElem_cons h1,h2]
 rfl
structure qlh (p : qx) : Prop where
 low : LowN p.all
 kind : ∀ c ∈ p.all,0 ≤ c.kind ∧ c.kind ≤ 7
 place : ∀ s,(v8 p s).1 = true → 0 ≤ (v8 p s).2.1 ∧ ∃ c,p.lets[(v8 p s).2.1.toNat]? = some c ∧ 0 ≤ c.root ∧ c.root < p.all.length
 few : p.all.length ≤ 400 ∧ p.outs.length ≤ 40 ∧ p.ins.length ≤ 40
theorem q1p {l : List NodeC} {i : Int} {x : Ex} (h : yn l i x) {c : NodeC} (hc : l[i.toNat]? = some c) : 0 ≤ c.kind ∧ c.kind ≤ 7 := by
 cases x with
 | ref t => have h1 := h.ref; rw [hc] at h1; cases Option.some.inj h1; exact ⟨by show (0 : Int) ≤ 0; decide,by show (0 : Int) ≤ 7; decide⟩
 | num q => have h1 := h.num; rw [hc] at h1; cases Option.some.inj h1; exact ⟨by show (0 : Int) ≤ 1; decide,by show (1 : Int) ≤ 7; decide⟩
 | neg y => obtain ⟨a,h1,_⟩ := h.neg; rw [hc] at h1; cases Option.some.inj h1; exact ⟨by show (0 : Int) ≤ 6; decide,by show (6 : Int) ≤ 7; decide⟩
 | pow y e => obtain ⟨a,h1,_⟩ := h.pow; rw [hc] at h1; cases Option.some.inj h1; exact ⟨by show (0 : Int) ≤ 7; decide,by show (7 : Int) ≤ 7; decide⟩
 | bin k y z =>
   have hk := h.ok
   obtain ⟨a,b,h1,_⟩ := h.bin
   rw [hc] at h1; cases Option.some.inj h1
   obtain ⟨k2,k5,_⟩ := hk
   exact ⟨by show 0 ≤ k; omega,by show k ≤ 7; omega⟩
theorem qli {b : Bool} {s : ByteArray} {q : PL} : ∀ {l : List ByteArray} {i : Nat}, getK s (yo b l i) = some q → q.l = b ∧ 0 ≤ q.i ∧ q.i < (i + l.length : Nat)
 | [],i,h => by cases h
 | t :: l, i, h => by
   rw [yo,getK] at h
   split at h
   · cases h; refine ⟨rfl, ?_, ?_⟩
     · show 0 ≤ ((i : Nat) : Int); omega
     · show ((i : Nat) : Int) < _; rw [List.length_cons]; omega
   · obtain ⟨h1, h2, h3⟩ := qli h
     refine ⟨h1,h2,?_⟩
     rw [List.length_cons]
     omega
theorem qsc {p : qx} (h : (vv p).err = 0) : qlh p := by
 obtain ⟨l,n,m,r,K1,L2,hl,_,_,_⟩ := qsa h
 refine ⟨qrg hl.toShaped,fun c hc => ?_,fun s hs => ?_,⟨hl.few.2,hl.outs.2.2,hl.ins.2.2⟩⟩
 · obtain ⟨i, hi⟩ := List.mem_iff_getElem?.1 hc
   have hlt := (List.getElem?_eq_some_iff.1 hi).1
   obtain ⟨y,hy,_⟩ := hl.node (i := (i : Int)) (by omega) (by omega)
   exact q1p hy (by rw [Int.toNat_natCast]; exact hi)
 · have hw := qh6 (s := s) h
   cases e1 : getK s (yo false p.ins 0) with
   | some q =>
     rw [e1] at hw
     dsimp only at hw
     rw [hw,(qli e1).1] at hs
     cases hs
   | none =>
     rw [e1] at hw
     dsimp only at hw
     cases e2 : getK s (yo true (p.lets.map LetC.name) 0) with
     | none => rw [e2] at hw; dsimp only at hw; rw [hw] at hs; cases hs
     | some q =>
       rw [e2] at hw
       dsimp only at hw
       obtain ⟨_,g1,g2⟩ := qli e2
       rw [List.length_map,Nat.zero_add] at g2
       rw [hw]
       refine ⟨g1,?_⟩
       obtain ⟨c,hc⟩ : ∃ c,p.lets[q.i.toNat]? = some c := ⟨p.lets[q.i.toNat]'(by omega),List.getElem?_eq_getElem (by omega)⟩
       obtain ⟨x,_,hx,_⟩ := hl.root hc
       exact ⟨c,hc,hx.in_⟩
def ivs (l : List Int) : List Value := l.map fun z => .int .i64 z
theorem qsd (l : List Int) : (ivs l).length = l.length := by simp [ivs]
theorem qh7 (l : List Int) (i : Nat) (z : Int) : (ivs l).set i (.int .i64 z) = ivs (l.set i z) := by unfold ivs; rw [List.map_set]
theorem qe7 {l : List Int} {i : Nat} (h : i < l.length) : (ivs l)[i]? = some (.int .i64 (l.getD i 0)) := by
 unfold ivs
 rw [List.getElem?_map,List.getElem?_eq_getElem h,List.getD_eq_getElem?_getD,List.getElem?_eq_getElem h]; rfl
theorem qse (m : Nat) : (madeCells [Value.int .i64 0].toArray (m * 1)).toList = ivs (List.replicate m 0) := by
 rw [Nat.mul_one]; exact (toList_madeCells_one _ _).trans (by simp [ivs])
theorem qe8 (l : List Int) : (ics l).flatten = l.map fun z => Value.int .i64 z := by
 induction l with
 | nil => rfl
 | cons x l ih => show [_] ++ (ics l).flatten = _; rw [ih]; rfl
theorem y6 (l : List Int) (z : Int) : (ics l).flatten ++ [.int .i64 z] = (ics (l ++ [z])).flatten := by rw [qe8,qe8]; simp
theorem qsf (l : List Int) : ∀ c ∈ ics l,c.length = 1 := by
 intro c hc
 obtain ⟨r,_,rfl⟩ := List.mem_map.1 hc
 rfl
def ptQ (ss : List jm) (i : Nat) : Rat := match ss[i]? with
 | some s => mkRat s.n ((s.d % 4).toNat + 1)
 | none => mkRat 0 1
def pts (n : Nat) (ss : List jm) : List Rat := (List.range n).map (ptQ ss)
theorem qsg (n : Nat) (ss : List jm) : pts (n + 1) ss = pts n ss ++ [ptQ ss n] := by unfold pts; rw [List.range_succ,List.map_append]; rfl
theorem q1q (n : Nat) (ss : List jm) : (pts n ss).length = n := by simp [pts]
theorem q1r {ss : List jm} (h : ∀ s ∈ ss,s.ok) (i : Nat) : BdQ 1 (ptQ ss i) := by
 unfold ptQ
 split
 · rename_i s hs
   have := h s (List.mem_of_getElem? hs)
   have h1 := this.n
   have h2 := this.d
   exact qdh (by omega) (by omega)
 · exact qdh (by decide) (by decide)
theorem qsh {ss : List jm} (h : ∀ s ∈ ss, s.ok) (n : Nat) : ∀ q ∈ pts n ss, BdQ 1 q := fun q hq => by
 obtain ⟨i,_,rfl⟩ := List.mem_map.1 hq
 exact q1r h i
theorem RsV.pt {I : Hp} {v : Value} {l : List Rat} (h : RsV I v l) : ∃ xs : List NV,PtV I v xs ∧ xs.map NV.q = l ∧ ∀ x ∈ xs,∃ q vn vd,q ∈ l ∧ x = NV.of q vn vd := by
 obtain ⟨rs,h1,h2,h3⟩ := h.out
 refine ⟨rs.map fun r => NV.of r.q r.vn r.vd,⟨?_,fun x hx => ?_⟩,?_,fun x hx => ?_⟩
 · rw [List.map_map]; exact h1
 · obtain ⟨r, hr, rfl⟩ := List.mem_map.1 hx
   exact h2 r hr
 · rw [List.map_map, ← h3]
   exact List.map_congr_left fun r _ => NV.of_q _ _ _
 · obtain ⟨r, hr, rfl⟩ := List.mem_map.1 hx
   exact ⟨r.q,r.vn,r.vd,by rw [← h3]; exact List.mem_map_of_mem hr,rfl⟩
theorem qsi (rs : List RV) (q : Rat) (u1 u2 : Value) : (rcs rs).flatten ++ ([.bool (decide (q.num < 0)),u1,u2] ++ []) = (rcs (rs ++ [⟨q,u1,u2⟩])).flatten := by
 rw [List.append_nil]; exact j8 rs ⟨q,u1,u2⟩
theorem q1s (n : Nat) (vl : Value) (ss : List jm) {I : Hp} (hn : n ≤ 1000) (hl : SmV I vl ss) : Fun prog 9 [.int .i64 (n : Nat),vl] I [] (fun v I' _ => RsV I' v (pts n ss)) := by
 have hls := hl.s
 have htk : (ss.map jm.cells).length = ss.length := List.length_map _
 have hm1 := hls.most
 unfold maxLen at hm1
 intro w hw
 refine qv _ func9 rfl ntmps9 rfl ?_ hw;refine sR ?_;refine oV ?_;refine nS ?_;refine oV ?_;refine nU ?_;refine oV ?_;refine oN (tC (cB ?_));refine qu (ι := Nat × List RV × Value × Hp) [0,1] (.cons rfl (.cons rfl .nil)) (fun x => n - x.1) (fun x E0 => (5,x.2.2.1) :: (6,.int .i64 (x.1 : Nat)) :: E0) (fun x => St w [] x.2.2.2 [.row x.2.2.1 48 3 x.2.1.length (rcs x.2.1).flatten]) (fun x => x.1 ≤ n ∧ x.2.1.length = x.1 ∧ (∀ r ∈ x.2.1,r.ok x.2.2.2) ∧ x.2.1.map RV.q = pts x.1 ss ∧ Ext w.heap.size I x.2.2.2) ((0,[],.slice none 0 0,I)) (sC rfl (sC rfl (sC rfl (sC rfl sN)))) (fun _ h => h.nilRow 48 3) (⟨Nat.zero_le _,rfl,fun r hr => (by cases hr),rfl,Ext.refl _ _⟩) ?_;rintro ⟨i,rs,u,I1⟩ ⟨hi,hrl,hrs,hq1,hx1⟩
 try dsimp only
 simp only at hi hrl hrs hq1 hx1
 refine cS (sR ?_);iterate 3 refine oV ?_
 refine nT ?_;refine cC rfl (fun h1 => ?_) (fun h1 => ?_)
 ·
  have f1 := h1;try simp only [bl] at f1
  refine cK (tC (cS (cB (sR ?_))));iterate 2 refine oV ?_
  refine qw trivial rfl underlying23 rfl (hls.le hx1.le) ?_;refine oV ?_;refine nT ?_;refine cC rfl (fun h2 => ?_) (fun h2 => ?_)
  ·
   have f2 := h2;try simp only [bl] at f2
   obtain ⟨s,hs⟩ : ∃ s,ss[i]? = some s := ⟨ss[i]'(by omega),List.getElem?_eq_getElem (by omega)⟩
   have hso := hl.ok s (List.mem_of_getElem? hs)
   obtain ⟨hs1,hs2⟩ := hso
   have e5 : s.d % 4 = ((s.d % 4).toNat : Int) := by omega
   have hq : ptQ ss i = mkRat s.n ((s.d % 4).toNat + 1) := by unfold ptQ; rw [hs]
   refine yb (m := 16) [] (by repeat constructor) (by kernel_rfl) rfl ?_;refine qT (i := 0) (qB 16 1) (Hp.Le.refl _) rfl rfl (oV qF) ?_;refine qT (i := 1) (qB 16 3) (Hp.Le.refl _) rfl rfl (oV qF) ?_;refine qT (i := 2) (qB 16 7) (Hp.Le.refl _) rfl rfl (oV qF) ?_;refine qT (i := 3) (qB 16 15) (Hp.Le.refl _) rfl rfl (vk trivial rfl underlying23 sizeOf75 rfl (hls.le hx1.le) rfl (by omega) qF) ?_;refine qT (i := 4) (qB 16 31) (Hp.Le.refl _) rfl rfl (oF 0 underlying75 sizeOf55 qF) ?_;refine qT (i := 5) (qB 16 63) (Hp.Le.refl _) rfl rfl (q8 trivial rfl isAgg55 rfl ((hl.le hx1.le).at_ hs 0 _ rfl) qF) ?_;refine qT (i := 6) (qB 16 127) (Hp.Le.refl _) rfl rfl (oV qF) ?_;refine qT (i := 7) (qB 16 255) (Hp.Le.refl _) rfl rfl (oV qF) ?_;refine qT (i := 8) (qB 16 511) (Hp.Le.refl _) rfl rfl (vk trivial rfl underlying23 sizeOf75 rfl (hls.le hx1.le) rfl (by omega) qF) ?_;refine qT (i := 9) (qB 16 1023) (Hp.Le.refl _) rfl rfl (oF 1 underlying75 sizeOf5 qF) ?_;refine qT (i := 10) (qB 16 2047) (Hp.Le.refl _) rfl rfl (q8 trivial rfl isAgg5 rfl ((hl.le hx1.le).at_ hs 1 _ rfl) qF) ?_;refine qT (i := 11) (qB 16 4095) (Hp.Le.refl _) rfl rfl (j6 trivial rfl rfl rfl (by omega) qF) ?_;refine qO (i := 12) (qB 16 8191) rfl ?_
   rw [e5]
   refine oI call16 rfl (qem s.n (s.d % 4).toNat hs1 (by omega)) ?_;rintro _ I2 hx2 ⟨u1,u2,rfl,k1,k2⟩;refine qM (hx2.le) ?_;refine qO (i := 13) (qB 16 16383) rfl ?_;refine oB underlying39 sizeOf48 zeroValue48 fun b29 => ?_;refine qM (hx2.le) ?_;refine qO (i := 14) (qB 16 32767) rfl ?_;refine jb trivial rfl underlying39 (jy) (by decide) rfl rfl (fun v' => (by repeat constructor)) (by repeat constructor) rfl (by exact jz k1 k2) (by (unfold maxLen; omega)) (by omega) (fun v30 => ?_);refine qM (hx2.le) ?_;refine qT (i := 15) (qB 16 65535) (hx2.le) rfl rfl (oV qF) ?_;refine qn (by kernel_rfl) ?_;refine qe (tC (cR ?_));refine oV ?_
   (refine qf trivial rfl rfl rfl ?_ ?_; (omega))
   refine oV ?_;refine oN ?_
   (exact qj (i + 1, rs ++ [⟨mkRat s.n ((s.d % 4).toNat + 1), u1, u2⟩], v30, I2) (sC rfl (sC rfl (sC rfl (sC rfl sN)))) (fun _ h => by rw [← qsi, List.length_append]; exact h.sort (by repeat constructor)) (by show n - (i + 1) < n - i; omega) ⟨by show i + 1 ≤ _; omega, by show (rs ++ [_]).length = _; rw [List.length_append, hrl]; rfl, fun r hr => by
      rcases List.mem_append.1 hr with hr | hr
      · exact (hrs r hr).le hx2.le
      · rw [List.mem_singleton.1 hr]; exact ⟨k1,k2⟩,by show (rs ++ [_]).map RV.q = pts (i + 1) ss; rw [List.map_append,hq1,qsg,hq]; rfl,hx1.trans hx2 (Nat.le_refl _)⟩)
  have f2 := h2;try simp only [bl] at f2
  have hq : ptQ ss i = mkRat 0 1 := by unfold ptQ; rw [List.getElem?_eq_none (by omega)]
  refine cR ?_;refine oV ?_;refine oI call13 rfl (qel 0 (by decide)) ?_;rintro _ I2 hx2 ⟨u1,u2,rfl,k1,k2⟩;refine oB underlying39 sizeOf48 zeroValue48 fun b33 => ?_;refine jb trivial rfl underlying39 (jy) (by decide) rfl rfl (fun v' => (by repeat constructor)) (by repeat constructor) rfl (by exact jz k1 k2) (by (unfold maxLen; omega)) (by omega) (fun v34 => ?_);refine oV ?_;refine oN (qe (tC (cR ?_)));refine oV ?_
  (refine qf trivial rfl rfl rfl ?_ ?_; (omega))
  refine oV ?_;refine oN ?_
  (exact qj (i + 1, rs ++ [⟨mkRat 0 1, u1, u2⟩], v34, I2) (sC rfl (sC rfl (sC rfl (sC rfl sN)))) (fun _ h => by rw [← qsi, List.length_append]; exact h.sort (by repeat constructor)) (by show n - (i + 1) < n - i; omega) ⟨by show i + 1 ≤ _; omega, by show (rs ++ [_]).length = _; rw [List.length_append, hrl]; rfl, fun r hr => by
     rcases List.mem_append.1 hr with hr | hr
     · exact (hrs r hr).le hx2.le
     · rw [List.mem_singleton.1 hr]; exact ⟨k1,k2⟩,by show (rs ++ [_]).map RV.q = pts (i + 1) ss; rw [List.map_append,hq1,qsg,hq]; rfl,hx1.trans hx2 (Nat.le_refl _)⟩)
 have f1 := h1;try simp only [bl] at f1
 refine qq (qc (qc (qp rfl (tC (sR ?_)))));iterate 2 refine oV ?_
 refine nE ?_;refine ret1 rfl rfl ?_
 have hin : i = n := by omega
 subst hin
 refine qc7 hx1 (qao rs) (qef rs) (by unfold maxLen; omega) (fun I' hl hs => ⟨rs,hs,fun r hr => (hrs r hr).le hl,hq1⟩)
structure Rel (f : Int → Int) (l l' : List Nat) : Prop where
 out : ∀ p : Int,0 ≤ p → p < l.length → 0 ≤ f p ∧ f p < l'.length ∧ 1 ≤ l'.getD (f p).toNat 0 ∧ l'.getD (f p).toNat 0 ≤ 12 * l.getD p.toNat 0
theorem qlj {α : Type} {l r : List α} {i : Nat} {d : α} (h : i < l.length) : (l ++ r).getD i d = l.getD i d := by
 simp only [List.getD_eq_getElem?_getD]; rw [List.getElem?_append_left h]
theorem qh8 {α : Type} {l : List α} {x d : α} : (l ++ [x]).getD l.length d = x := by
 simp only [List.getD_eq_getElem?_getD]; rw [List.getElem?_append_right (Nat.le_refl _),Nat.sub_self]; rfl
theorem Rel.add {f : Int → Int} {l l' : List Nat} {m m' : Nat} (h : Rel f l l') (hf : f (l.length : Nat) = (l'.length : Nat)) (h1 : 1 ≤ m' ∧ m' ≤ 12 * m) : Rel f (l ++ [m]) (l' ++ [m']) := ⟨fun p hp0 hp => by
 simp only [List.length_append,List.length_cons,List.length_nil] at hp ⊢
 by_cases hlt : p < l.length
 · obtain ⟨k1, k2, k3, k4⟩ := h.out p hp0 hlt
   rw [qlj (by omega),qlj (by omega)]
   exact ⟨k1,by omega,k3,k4⟩
 · have e : p = (l.length : Nat) := by omega
   subst e
   rw [hf,Int.toNat_natCast,Int.toNat_natCast,qh8,qh8]
   exact ⟨by omega,by omega,h1⟩⟩
structure RelQ (f : Int → Int) (l l' : List Rat) : Prop where
 out : ∀ p : Int,0 ≤ p → p < l.length → 0 ≤ f p ∧ f p < l'.length ∧ zth l' (f p) = zth l p
theorem qe9 {l r : List Rat} {p : Int} (h0 : 0 ≤ p) (h : p < l.length) : zth (l ++ r) p = zth l p := qlj (by omega)
theorem RelQ.add {f : Int → Int} {l l' : List Rat} {q : Rat} (h : RelQ f l l') (hf : f (l.length : Nat) = (l'.length : Nat)) : RelQ f (l ++ [q]) (l' ++ [q]) := ⟨fun p hp0 hp => by
 simp only [List.length_append,List.length_cons,List.length_nil] at hp ⊢
 by_cases hlt : p < l.length
 · obtain ⟨k1, k2, k3⟩ := h.out p hp0 hlt
   rw [qe9 (by omega) (by omega),qe9 hp0 hlt]
   exact ⟨k1,by omega,k3⟩
 · have e : p = (l.length : Nat) := by omega
   subst e
   rw [hf]
   refine ⟨by omega,by omega,?_⟩
   unfold zth
   rw [Int.toNat_natCast,Int.toNat_natCast,qh8,qh8]⟩
theorem qgj : ∀ (a b : List OpC) (qs : List Rat), opsR (a ++ b) qs = match opsR a qs with | some l => opsR b l | none => none
 | [],b,qs => rfl
 | o :: a, b, qs => by
   show (match opR o qs with | some q => opsR (a ++ b) (qs ++ [q]) | none => none) = match (match opR o qs with | some q => opsR a (qs ++ [q]) | none => none) with | some l => opsR b l | none => none
   cases opR o qs with
   | none => rfl
   | some q => exact qgj a b _
def lk (s : ByteArray) : List (ByteArray × Rat) → Option Rat
 | [] => none
 | (t,q) :: l => if s = t then some q else lk s l
def exN : Ex → List ByteArray
 | .ref s => [s]
 | .num _ => []
 | .neg x => exN x
 | .pow x _ => exN x
 | .bin _ x y => exN x ++ exN y
def opE (k e : Int) (a b : Rat) : Option Rat :=
 if k = 2 then some (a + b)
 else if k = 3 then some (a - b)
 else if k = 4 then some (a * b)
 else if k = 5 then (if b = 0 then none else some (a / b))
 else if k = 6 then some (-a)
 else if k = 7 then (if e < 0 ∧ a = 0 then none else some (a ^ e))
 else none
def evE (kv : List (ByteArray × Rat)) : Ex → Option Rat
 | .ref s => lk s kv
 | .num q => some q
 | .neg x => match evE kv x with | some a => opE 6 0 a a | none => none
 | .pow x e => match evE kv x with | some a => opE 7 e a a | none => none
 | .bin k x y => match evE kv x with | some a => (match evE kv y with | some b => opE k 0 a b | none => none) | none => none
def denE (kv : List (ByteArray × Rat)) : List (ByteArray × Ex) → Option (List Rat)
 | [] => some []
 | (s, x) :: l => match evE kv x with
   | some q => (match denE (kv ++ [(s,q)]) l with | some r => some (q :: r) | none => none)
   | none => none
def qc1 : List ByteArray → List (ByteArray × Ex) → Prop
 | _,[] => True
 | ns,(s,x) :: l => (∀ t ∈ exN x,t ∈ ns) ∧ qc1 (ns ++ [s]) l
theorem qgk (s : ByteArray) : ∀ (a b : List (ByteArray × Rat)), lk s (a ++ b) = match lk s a with | some q => some q | none => lk s b
 | [],b => rfl
 | (t, q) :: a, b => by
   rw [List.cons_append,lk,lk]
   by_cases h : s = t
   · rw [if_pos h,if_pos h]
   · rw [if_neg h,if_neg h]; exact qgk s a b
theorem qsj {s : ByteArray} {q : Rat} {a : List (ByteArray × Rat)} (h : lk s a = some q) (b : List (ByteArray × Rat)) : lk s (a ++ b) = some q := by rw [qgk,h]
theorem q1t (x : Ex) : ∀ (b : Nat),∀ s ∈ exN x,∃ c ∈ x.nd b,c.kind = 0 ∧ c.name = s := by
 induction x with
 | ref t => intro b s hs; rw [exN,List.mem_singleton] at hs; exact ⟨refN t,List.mem_singleton.2 rfl,rfl,hs.symm⟩
 | num q => intro b s hs; cases hs
 | neg x ih => intro b s hs; obtain ⟨c,h1,h2⟩ := ih b s hs; exact ⟨c,List.mem_append_left _ h1,h2⟩
 | pow x e ih => intro b s hs; obtain ⟨c,h1,h2⟩ := ih b s hs; exact ⟨c,List.mem_append_left _ h1,h2⟩
 | bin k x y ihx ihy =>
   intro b s hs
   rcases List.mem_append.1 hs with hs | hs
   · obtain ⟨c,h1,h2⟩ := ihx b s hs; exact ⟨c,List.mem_append_left _ (List.mem_append_left _ h1),h2⟩
   · obtain ⟨c,h1,h2⟩ := ihy (b + x.n) s hs; exact ⟨c,List.mem_append_left _ (List.mem_append_right _ h1),h2⟩
theorem qlk {K : KN} : ∀ {r : List NodeC} {L L' : List ByteArray}, jj K r L = (none, L') → ∀ c ∈ r, c.kind = 0 → hasK c.name K = true
 | [],L,L',h,c,hc,_ => by cases hc
 | d :: r, L, L', h, c, hc, hk => by
   rw [jj] at h
   split at h
   · rename_i hd
     rcases List.mem_cons.1 hc with rfl | hc
     · exact absurd hk hd
     · exact qlk h c hc hk
   · rename_i hd
     split at h
     · rename_i hh
       rcases List.mem_cons.1 hc with rfl | hc
       · exact hh
       · exact qlk h c hc hk
     · cases h
theorem qll {s : ByteArray} : ∀ {K : KN}, hasK s K = true → s ∈ K.map Prod.fst
 | [],h => by cases h
 | (t, p) :: K, h => by
   unfold hasK getK at h
   by_cases e : s = t
   · rw [e]; exact List.mem_cons_self
   · rw [if_neg e] at h; exact List.mem_cons_of_mem _ (qll h)
theorem q1u {all : List NodeC} {b : Nat} {x : Ex} (h : At all b x) : segZ all b ((b : Int) + x.n - 1 + 1) = x.nd b := by
 unfold segZ
 rw [show ((b : Int) + x.n - 1 + 1).toNat = b + x.n by omega,Int.toNat_natCast,List.drop_take,show b + x.n - b = x.n by omega]
 refine List.ext_getElem? fun j => ?_
 by_cases hj : j < x.n
 · have hl : (x.nd b)[j]? = some ((x.nd b)[j]'(by rw [x.nd_len]; exact hj)) := List.getElem?_eq_getElem _
   rw [hl,List.getElem?_take_of_lt hj,List.getElem?_drop]
   exact h j _ hl
 · rw [List.getElem?_eq_none (by rw [List.length_take]; omega),List.getElem?_eq_none (by rw [x.nd_len]; omega)]
theorem qsk {all : List NodeC} : ∀ (l : List (ByteArray × Ex)) (b : Nat) {i : Nat} {K K' : KN} {L L' : List ByteArray} {n : ByteArray}, (∀ j c, (laid l b).2[j]? = some c → all[b + j]? = some c) → yg all (laid l b).1 i b K L = (n, 0, K', L') → qc1 (K.map Prod.fst) l
 | [],b,i,K,K',L,L',n,ha,h => trivial
 | (s, x) :: l, b, i, K, K', L, L', n, ha, h => by
   have e : (laid ((s,x) :: l) b).2 = x.nd b ++ (laid l (b + x.n)).2 := rfl
   have a1 : At all b x := At.left ha e
   have a2 := At.right ha e
   rw [x.nd_len] at a2
   have e2 : (laid ((s,x) :: l) b).1 = ⟨s,(b : Int) + x.n - 1⟩ :: (laid l (b + x.n)).1 := rfl
   rw [e2,yg,q1u a1] at h
   cases hn : jj K (x.nd b) L with
   | mk o L1 =>
     rw [hn] at h
     cases o with
     | some m => have := congrArg (fun x => x.2.1) h; simp at this
     | none =>
       dsimp only at h
       split at h
       · have := congrArg (fun x => x.2.1) h; simp at this
       · refine ⟨fun t ht => ?_, ?_⟩
         · obtain ⟨c, h1, h2, h3⟩ := q1t x b t ht
           have := qlk hn c h1 h2
           rw [h3] at this
           exact qll this
         · rw [show (b : Int) + x.n - 1 + 1 = ((b + x.n : Nat) : Int) by omega] at h
           have ih := qsk l (b + x.n) a2 h
           rw [List.map_append] at ih
           exact ih
theorem qh9 (b : Bool) : ∀ (l : List ByteArray) (i : Nat), (yo b l i).map Prod.fst = l
 | [],_ => rfl
 | s :: l,i => by rw [yo,List.map_cons,qh9 b l]
theorem qsl {p : qx} (h : (vv p).err = 0) : ∃ l,zm p l ∧ qc1 p.ins l ∧ ∀ s ∈ p.outs,s ∈ p.ins ++ l.map Prod.fst := by
 obtain ⟨l,n,m,r,K1,L2,hl,h1,h2,h3⟩ := qsa h
 have hk := qlf h1
 rw [List.nil_append] at hk
 have ha : ∀ j c,(laid l 0).2[j]? = some c → p.all[0 + j]? = some c := fun j c hj => by rw [hl.all,Nat.zero_add]; exact hj
 have h2' := h2
 rw [hl.lets] at h2'
 have hkn := qsk l 0 ha h2'
 rw [hk,qh9] at hkn
 refine ⟨l,hl,hkn,fun s hs => ?_⟩
 have hK := (qr6 h).1
 have hn : p.lets.map LetC.name = l.map Prod.fst := by rw [hl.lets]; exact lets_names l 0
 rw [hn] at hK
 have := outs_has h3 s hs
 rw [hK] at this
 have := qll this
 rw [List.map_append,qh9,qh9] at this
 exact this
where
 lets_names : ∀ (l : List (ByteArray × Ex)) (b : Nat), (laid l b).1.map LetC.name = l.map Prod.fst
   | [],_ => rfl
   | (s,x) :: l,b => by show s :: _ = s :: _; rw [lets_names l]
 outs_has {K : KN} : ∀ {l L L' : List ByteArray} {n : ByteArray}, ousZ K l L = (n, 0, L') → ∀ s ∈ l, hasK s K = true
   | [],L,L',n,h,s,hs => by cases hs
   | t :: l, L, L', n, h, s, hs => by
     rw [ousZ] at h
     split at h
     · rename_i ht
       rcases List.mem_cons.1 hs with rfl | hs
       · exact ht
       · exact outs_has h s hs
     · have := congrArg (fun x => x.2.1) h; simp at this
def qb6 (p : qx) (kv : List (ByteArray × Rat)) (b : Nat) (pl : List Int) (V : List Rat) (ns : List ByteArray) : Prop :=
 ∀ s ∈ ns,((v8 p s).1 = true → (p.lets.getD (v8 p s).2.1.toNat ⟨⟨#[]⟩,0⟩).root.toNat < b) ∧ ∃ q,lk s kv = some q ∧ 0 ≤ plcZ p pl s ∧ plcZ p pl s < V.length ∧ zth V (plcZ p pl s) = q
theorem q1v {p : qx} {b : Nat} {pl pl' : List Int} {s : ByteArray} (h : (v8 p s).1 = true → (p.lets.getD (v8 p s).2.1.toNat ⟨⟨#[]⟩,0⟩).root.toNat < b) (hp : ∀ j,j < b → pl'.getD j 0 = pl.getD j 0) : plcZ p pl' s = plcZ p pl s := by
 unfold plcZ
 by_cases hw : (v8 p s).1 = true
 · rw [if_pos hw,if_pos hw,hp _ (h hw)]
 · rw [if_neg hw,if_neg hw]
theorem qb6.up {p : qx} {kv : List (ByteArray × Rat)} {b b' : Nat} {pl pl' : List Int} {V W : List Rat} {ns ns' : List ByteArray} (h : qb6 p kv b pl V ns) (hb : b ≤ b') (hp : ∀ j, j < b → pl'.getD j 0 = pl.getD j 0) (hn : ∀ s ∈ ns', s ∈ ns) : qb6 p kv b' pl' (V ++ W) ns' := fun s hs => by
 obtain ⟨h1,q,h2,h3,h4,h5⟩ := h s (hn s hs)
 have e := q1v h1 hp
 refine ⟨fun hw => Nat.lt_of_lt_of_le (h1 hw) hb,q,h2,by rw [e]; exact h3,by rw [e,List.length_append]; omega,by rw [e,qe9 h3 h4]; exact h5⟩
theorem qia {l : List Int} {i : Nat} {z : Int} (h : i < l.length) : (l.set i z).getD i 0 = z := by
 rw [List.getD_eq_getElem?_getD,List.getElem?_set_self h]; rfl
theorem qdx {l : List Int} {i j : Nat} {z : Int} (h : i ≠ j) : (l.set i z).getD j 0 = l.getD j 0 := by
 rw [List.getD_eq_getElem?_getD,List.getElem?_set_ne h,List.getD_eq_getElem?_getD]
theorem qlm {V : List Rat} {q : Rat} {i : Int} (h : i = V.length) : zth (V ++ [q]) i = q := by
 subst h
 unfold zth
 rw [Int.toNat_natCast,List.getD_eq_getElem?_getD,List.getElem?_append_right (Nat.le_refl _),Nat.sub_self]; rfl
theorem qsm {c : NodeC} {pl : List Int} {V : List Rat} (h : 2 ≤ c.kind) (h7 : c.kind ≤ 7) {a b : Rat} (ha : zth V (pl.getD c.a.toNat 0) = a) (hb : c.kind ≤ 5 → zth V (pl.getD c.b.toNat 0) = b) : opR (opL c pl) V = opE c.kind c.e a b := by
 have e1 : (opL c pl).a = pl.getD c.a.toNat 0 := by show (if 2 ≤ c.kind then _ else _) = _; rw [if_pos h]
 have e2 : c.kind ≤ 5 → (opL c pl).b = pl.getD c.b.toNat 0 := fun h5 => by show (if 2 ≤ c.kind ∧ c.kind ≤ 5 then _ else _) = _; rw [if_pos ⟨h,h5⟩]
 unfold opR opE
 rw [e1,ha]
 show (if c.kind = 2 then _ else _) = _
 by_cases k2 : c.kind = 2
 · rw [if_pos k2,if_pos k2,e2 (by omega),hb (by omega)]
 rw [if_neg k2,if_neg k2]
 show (if c.kind = 3 then _ else _) = _
 by_cases k3 : c.kind = 3
 · rw [if_pos k3,if_pos k3,e2 (by omega),hb (by omega)]
 rw [if_neg k3,if_neg k3]
 show (if c.kind = 4 then _ else _) = _
 by_cases k4 : c.kind = 4
 · rw [if_pos k4,if_pos k4,e2 (by omega),hb (by omega)]
 rw [if_neg k4,if_neg k4]
 show (if c.kind = 5 then _ else _) = _
 by_cases k5 : c.kind = 5
 · rw [if_pos k5,if_pos k5,e2 (by omega),hb (by omega)]
 rw [if_neg k5,if_neg k5]
 show (if c.kind = 6 then _ else _) = _
 by_cases k6 : c.kind = 6
 · rw [if_pos k6,if_pos k6]
 rw [if_neg k6,if_neg k6]
 show (if c.kind = 7 then _ else _) = _
 have k7 : c.kind = 7 := by omega
 rw [if_pos k7,if_pos k7]
 rfl
theorem qln {o : OpC} {V : List Rat} : opsR [o] V = match opR o V with | some q => some (V ++ [q]) | none => none := by
 rw [opsR]; cases opR o V <;> rfl
def ExOK (kv : List (ByteArray × Rat)) : Ex → Prop
 | .ref s => ∃ q,lk s kv = some q
 | .num q => (natW q.num.natAbs).length ≤ 3000 ∧ (natW q.den).length ≤ 3000
 | .neg x => ExOK kv x ∧ ∀ a,evE kv x = some a → Few 1400 a
 | .pow x e => ExOK kv x ∧ ∀ a,evE kv x = some a → Few 1400 a ∧ ∃ c,Few c a ∧ c ≤ 1300 ∧ c * e.natAbs ≤ 1300 ∧ -64 ≤ e ∧ e ≤ 64
 | .bin k x y => ExOK kv x ∧ ∀ a,evE kv x = some a → ExOK kv y ∧ ∀ b,evE kv y = some b → Few 1400 a ∧ Few 1400 b
theorem qfa : ∀ {a b : List OpC} {V : List Rat}, zf (a ++ b) V → zf a V ∧ ∀ V', opsR a V = some V' → zf b V'
 | [],b,V,h => ⟨trivial,fun V' e => by cases e; exact h⟩
 | o :: a, b, V, h => by
   refine ⟨⟨h.1,fun q hq => (qfa (h.2 q hq)).1⟩,fun V' e => ?_⟩
   rw [opsR] at e
   cases hq : opR o V with
   | none => rw [hq] at e; cases e
   | some q => rw [hq] at e; exact (qfa (h.2 q hq)).2 V' e
theorem qlo {l : List Rat} {i : Int} (h0 : 0 ≤ i) (h : i < l.length) : zth l i ∈ l := qhj (by omega)
theorem comp (p : qx) (x : Ex) : ∀ (b : Nat) (pl : List Int) (ops : List OpC), x.ok → b + x.n ≤ pl.length →
   ∃ pl' new, (∀ r, yx p (x.nd b ++ r) b pl ops = yx p r (b + x.n) pl' (ops ++ new)) ∧ pl'.length = pl.length ∧ (∀ j, j < b → pl'.getD j 0 = pl.getD j 0) ∧
     ∀ (V : List Rat) (kv : List (ByteArray × Rat)), V.length = p.ins.length + ops.length → qb6 p kv b pl V (exN x) →
       (match evE kv x with
       | some q => ∃ W,opsR new V = some (V ++ W) ∧ W.length = new.length ∧ 0 ≤ pl'.getD (b + x.n - 1) 0 ∧ pl'.getD (b + x.n - 1) 0 < (V ++ W).length ∧ zth (V ++ W) (pl'.getD (b + x.n - 1) 0) = q
       | none => opsR new V = none) ∧ (zf new V → ExOK kv x) := by
 induction x with
 | ref s =>
   intro b pl ops hx hl
   refine ⟨pl.set b (plcZ p pl s),[],fun r => ?_,by rw [List.length_set],fun j hj => qdx (by omega),fun V kv hV hE => ?_⟩
   · show yx p (refN s :: r) b pl ops = _
     rw [yx,if_pos (show (refN s).kind = 0 from rfl),List.append_nil]; rfl
   · obtain ⟨h1, q, h2, h3, h4, h5⟩ := hE s (List.mem_singleton.2 rfl)
     have e : (pl.set b (plcZ p pl s)).getD (b + (Ex.ref s).n - 1) 0 = plcZ p pl s := by
       show (pl.set b (plcZ p pl s)).getD (b + 1 - 1) 0 = _
       rw [Nat.add_sub_cancel]
       exact qia (by have : (Ex.ref s).n = 1 := rfl; omega)
     refine ⟨?_,fun _ => ⟨q,h2⟩⟩
     show match lk s kv with | some q => _ | none => _
     rw [h2]
     dsimp only
     rw [e]
     refine ⟨[],?_,rfl,h3,?_,?_⟩
     · rw [List.append_nil]; rfl
     · rw [List.append_nil]; exact h4
     · rw [List.append_nil]; exact h5
 | num q =>
   intro b pl ops hx hl
   refine ⟨pl.set b ((p.ins.length : Int) + ops.length),[qag q],fun r => ?_,by rw [List.length_set],fun j hj => qdx (by omega),fun V kv hV hE => ?_⟩
   · show yx p (numN q :: r) b pl ops = _
     rw [yx,if_neg (by show ¬ (1 : Int) = 0; decide)]; rfl
   · have e : (pl.set b ((p.ins.length : Int) + ops.length)).getD (b + (Ex.num q).n - 1) 0 = (p.ins.length : Int) + ops.length := by
       show (pl.set b _).getD (b + 1 - 1) 0 = _
       rw [Nat.add_sub_cancel]
       exact qia (by have : (Ex.num q).n = 1 := rfl; omega)
     refine ⟨?_,fun h => h.1.lits⟩
     show ∃ W,_
     rw [e]
     refine ⟨[q],?_,rfl,by omega,by rw [List.length_append,hV]; show _ < ((_ + 1 : Nat) : Int); omega,qlm (by rw [hV]; omega)⟩
     rw [qln,qj5]
 | neg x ih =>
   intro b pl ops hx hl
   have hn : (Ex.neg x).n = x.n + 1 := rfl
   have hp := x.n_pos
   obtain ⟨pl1,new1,g1,g2,g3,g4⟩ := ih b pl ops hx (by omega)
   exact unary p x 6 0 (.neg x) rfl (fun _ => rfl) rfl (by decide) (by decide) b pl ops (by omega) g1 g2 g3 g4 (fun kv => rfl) (fun kv hx ha => ⟨hx,fun a h => (ha a h).1⟩)
 | pow x e ih =>
   intro b pl ops hx hl
   have hn : (Ex.pow x e).n = x.n + 1 := rfl
   have hp := x.n_pos
   obtain ⟨pl1,new1,g1,g2,g3,g4⟩ := ih b pl ops hx.1 (by omega)
   exact unary p x 7 e (.pow x e) rfl (fun _ => rfl) rfl (by decide) (by decide) b pl ops (by omega) g1 g2 g3 g4 (fun kv => rfl) (fun kv hx ha => ⟨hx,fun a h => ⟨(ha a h).1,(ha a h).2 rfl⟩⟩)
 | bin k x y ihx ihy =>
   intro b pl ops hx hl
   obtain ⟨k2,k5,ox,oy⟩ := hx
   have hn : (Ex.bin k x y).n = x.n + y.n + 1 := rfl
   have hp := x.n_pos
   have hq := y.n_pos
   obtain ⟨pl1,new1,g1,g2,g3,g4⟩ := ihx b pl ops ox (by omega)
   obtain ⟨pl2,new2,f1,f2,f3,f4⟩ := ihy (b + x.n) pl1 (ops ++ new1) oy (by omega)
   have hkn : (binN k ((b : Int) + x.n - 1) ((b : Int) + x.n + y.n - 1)).kind = k := rfl
   obtain ⟨pl3,hpl3⟩ : ∃ pl3,pl3 = pl2.set (b + x.n + y.n) ((p.ins.length : Int) + (ops ++ new1 ++ new2).length) := ⟨_,rfl⟩
   have hpa : pl3.getD (b + x.n - 1) 0 = pl1.getD (b + x.n - 1) 0 := by rw [hpl3,qdx (by omega),f3 _ (by omega)]
   have hpb : pl3.getD (b + x.n + y.n - 1) 0 = pl2.getD (b + x.n + y.n - 1) 0 := by rw [hpl3,qdx (by omega)]
   refine ⟨pl3,new1 ++ (new2 ++ [opL (binN k ((b : Int) + x.n - 1) ((b : Int) + x.n + y.n - 1)) pl3]),fun r => ?_,by rw [hpl3,List.length_set,f2,g2],fun j hj => by rw [hpl3,qdx (by omega),f3 _ (by omega),g3 _ hj],fun V kv hV hE => ?_⟩
   · show yx p ((x.nd b ++ y.nd (b + x.n) ++ [binN k ((b : Int) + x.n - 1) ((b : Int) + x.n + y.n - 1)]) ++ r) b pl ops = _
     rw [List.append_assoc,List.append_assoc,g1,f1,List.singleton_append,yx,if_neg (by rw [hkn]; omega),← hpl3,hn]
     simp only [List.append_assoc,Nat.add_assoc]
   · have g5 := g4 V kv hV (fun s hs => hE s (List.mem_append_left _ hs))
     have ev : evE kv (.bin k x y) = match evE kv x with | some a => (match evE kv y with | some b => opE k 0 a b | none => none) | none => none := rfl
     have second : zf (new1 ++ (new2 ++ [opL (binN k ((b : Int) + x.n - 1) ((b : Int) + x.n + y.n - 1)) pl3])) V → ExOK kv (.bin k x y) := fun h => by
       obtain ⟨h1,h2⟩ := qfa h
       refine ⟨g5.2 h1,fun a ha => ?_⟩
       have g6 := g5.1
       rw [ha] at g6
       obtain ⟨W,w1,w2,w3,w4,w5⟩ := g6
       obtain ⟨h3,h4⟩ := qfa (h2 _ w1)
       have f5 := f4 (V ++ W) kv (by rw [List.length_append,List.length_append,hV,w2]; omega) (hE.up (Nat.le_add_right _ _) g3 (fun s hs => List.mem_append_right _ hs))
       refine ⟨f5.2 h3,fun c hc => ?_⟩
       have f6 := f5.1
       rw [hc] at f6
       obtain ⟨U,u1,u2,u3,u4,u5⟩ := f6
       have h5 := (h4 _ u1).1
       refine ⟨?_,by rw [← u5]; exact h5.few _ (qlo u3 u4)⟩
       rw [← w5]
       exact h5.few _ (List.mem_append_left _ (qlo w3 w4))
     refine ⟨?_,second⟩
     replace g5 := g5.1
     rw [ev,qgj]
     cases ha : evE kv x with
     | none =>
       rw [ha] at g5
       dsimp only at g5 ⊢
       rw [g5]
     | some a =>
       rw [ha] at g5
       dsimp only at g5 ⊢
       obtain ⟨W,w1,w2,w3,w4,w5⟩ := g5
       rw [w1]
       dsimp only
       rw [qgj]
       have f5 := f4 (V ++ W) kv (by rw [List.length_append,List.length_append,hV,w2]; omega) (hE.up (Nat.le_add_right _ _) g3 (fun s hs => List.mem_append_right _ hs)) |>.1
       cases hb : evE kv y with
       | none =>
         rw [hb] at f5
         dsimp only at f5 ⊢
         rw [f5]
       | some c =>
         rw [hb] at f5
         dsimp only at f5 ⊢
         obtain ⟨U,u1,u2,u3,u4,u5⟩ := f5
         rw [u1]
         dsimp only
         have hlen : (V ++ W ++ U).length = p.ins.length + (ops ++ new1 ++ new2).length := by simp only [List.length_append,hV,w2,u2]; omega
         have hop := qsm (c := binN k ((b : Int) + x.n - 1) ((b : Int) + x.n + y.n - 1)) (pl := pl3) (V := V ++ W ++ U) (a := a) (b := c) k2 (by show k ≤ 7; omega)
           (by
             show zth _ (pl3.getD ((b : Int) + x.n - 1).toNat 0) = a
             rw [show ((b : Int) + x.n - 1).toNat = b + x.n - 1 by omega,hpa,qe9 w3 w4]
             exact w5)
           (fun _ => by
             show zth _ (pl3.getD ((b : Int) + x.n + y.n - 1).toNat 0) = c
             rw [show ((b : Int) + x.n + y.n - 1).toNat = b + x.n + y.n - 1 by omega,hpb]
             exact u5)
         change opR _ _ = opE k 0 a c at hop
         rw [qln,hop]
         cases hc : opE k 0 a c with
         | none =>
           rfl
         | some q =>
           refine ⟨W ++ (U ++ [q]),?_,by simp only [List.length_append,w2,u2]; rfl,?_⟩
           · show some (V ++ W ++ U ++ [q]) = _
             simp only [List.append_assoc]
           · have e : pl3.getD (b + (Ex.bin k x y).n - 1) 0 = (p.ins.length : Int) + (ops ++ new1 ++ new2).length := by
               rw [hn,show b + (x.n + y.n + 1) - 1 = b + x.n + y.n by omega,hpl3]
               exact qia (by omega)
             have e2 : V ++ (W ++ (U ++ [q])) = V ++ W ++ U ++ [q] := by simp only [List.append_assoc]
             rw [e,e2]
             refine ⟨by omega,by rw [show (V ++ W ++ U ++ [q]).length = (V ++ W ++ U).length + 1 from List.length_append,hlen]; omega,qlm (by rw [hlen]; omega)⟩
where
 unary (p : qx) (x : Ex) (k e : Int) (z : Ex) (hz : z.n = x.n + 1) (hnd : ∀ b, z.nd b = x.nd b ++ [⟨k, (b : Int) + x.n - 1, 0, e, ⟨#[]⟩, false, [], []⟩]) (hxn : exN z = exN x) (k6 : 6 ≤ k) (k7 : k ≤ 7) (b : Nat) (pl : List Int) (ops : List OpC) (hl : b + x.n + 1 ≤ pl.length) {pl1 : List Int} {new1 : List OpC}
     (g1 : ∀ r,yx p (x.nd b ++ r) b pl ops = yx p r (b + x.n) pl1 (ops ++ new1)) (g2 : pl1.length = pl.length) (g3 : ∀ j,j < b → pl1.getD j 0 = pl.getD j 0)
     (g4 : ∀ (V : List Rat) (kv : List (ByteArray × Rat)), V.length = p.ins.length + ops.length → qb6 p kv b pl V (exN x) →
       (match evE kv x with
       | some q => ∃ W,opsR new1 V = some (V ++ W) ∧ W.length = new1.length ∧ 0 ≤ pl1.getD (b + x.n - 1) 0 ∧ pl1.getD (b + x.n - 1) 0 < (V ++ W).length ∧ zth (V ++ W) (pl1.getD (b + x.n - 1) 0) = q
       | none => opsR new1 V = none) ∧ (zf new1 V → ExOK kv x))
     (hev : ∀ kv,evE kv z = match evE kv x with | some a => opE k e a a | none => none)
     (hok : ∀ kv,ExOK kv x → (∀ a,evE kv x = some a → Few 1400 a ∧ (k = 7 → ∃ c,Few c a ∧ c ≤ 1300 ∧ c * e.natAbs ≤ 1300 ∧ -64 ≤ e ∧ e ≤ 64)) → ExOK kv z) :
     ∃ pl' new,(∀ r,yx p (z.nd b ++ r) b pl ops = yx p r (b + z.n) pl' (ops ++ new)) ∧ pl'.length = pl.length ∧ (∀ j,j < b → pl'.getD j 0 = pl.getD j 0) ∧
     ∀ (V : List Rat) (kv : List (ByteArray × Rat)), V.length = p.ins.length + ops.length → qb6 p kv b pl V (exN z) →
       (match evE kv z with
       | some q => ∃ W,opsR new V = some (V ++ W) ∧ W.length = new.length ∧ 0 ≤ pl'.getD (b + z.n - 1) 0 ∧ pl'.getD (b + z.n - 1) 0 < (V ++ W).length ∧ zth (V ++ W) (pl'.getD (b + z.n - 1) 0) = q
       | none => opsR new V = none) ∧ (zf new V → ExOK kv z) := by
   have hp := x.n_pos
   obtain ⟨pl3,hpl3⟩ : ∃ pl3,pl3 = pl1.set (b + x.n) ((p.ins.length : Int) + (ops ++ new1).length) := ⟨_,rfl⟩
   have hpa : pl3.getD (b + x.n - 1) 0 = pl1.getD (b + x.n - 1) 0 := by rw [hpl3,qdx (by omega)]
   refine ⟨pl3,new1 ++ [opL ⟨k,(b : Int) + x.n - 1,0,e,⟨#[]⟩,false,[],[]⟩ pl3],fun r => ?_,by rw [hpl3,List.length_set,g2],fun j hj => by rw [hpl3,qdx (by omega),g3 _ hj],fun V kv hV hE => ?_⟩
   · rw [hnd, List.append_assoc, g1, List.singleton_append, yx, if_neg (by show ¬ k = 0; omega), ← hpl3, hz]
     simp only [List.append_assoc,Nat.add_assoc]
   · rw [hxn] at hE
     have g5 := g4 V kv hV hE
     have second : zf (new1 ++ [opL ⟨k, (b : Int) + x.n - 1, 0, e, ⟨#[]⟩, false, [], []⟩ pl3]) V → ExOK kv z := fun h => by
       obtain ⟨h1,h2⟩ := qfa h
       refine hok kv (g5.2 h1) (fun a ha => ?_)
       have g6 := g5.1
       rw [ha] at g6
       obtain ⟨W,w1,w2,w3,w4,w5⟩ := g6
       have h3 := (h2 _ w1).1
       refine ⟨by rw [← w5]; exact h3.few _ (qlo w3 w4),fun h7 => ?_⟩
       obtain ⟨c,c1,c2⟩ := h3.pow h7
       have e1 : (opL ⟨k,(b : Int) + x.n - 1,0,e,⟨#[]⟩,false,[],[]⟩ pl3).a = pl3.getD ((b : Int) + x.n - 1).toNat 0 := if_pos (by show 2 ≤ k; omega)
       rw [e1,show ((b : Int) + x.n - 1).toNat = b + x.n - 1 by omega,hpa,w5] at c1
       exact ⟨c,c1,c2⟩
     refine ⟨?_,second⟩
     replace g5 := g5.1
     rw [hev,qgj]
     cases ha : evE kv x with
     | none =>
       rw [ha] at g5
       dsimp only at g5 ⊢
       rw [g5]
     | some a =>
       rw [ha] at g5
       dsimp only at g5 ⊢
       obtain ⟨W,w1,w2,w3,w4,w5⟩ := g5
       rw [w1]
       dsimp only
       have hlen : (V ++ W).length = p.ins.length + (ops ++ new1).length := by simp only [List.length_append,hV,w2]; omega
       have hop := qsm (c := ⟨k, (b : Int) + x.n - 1, 0, e, ⟨#[]⟩, false, [], []⟩) (pl := pl3) (V := V ++ W) (a := a) (b := a) (by show 2 ≤ k; omega) k7
         (by
           show zth _ (pl3.getD ((b : Int) + x.n - 1).toNat 0) = a
           rw [show ((b : Int) + x.n - 1).toNat = b + x.n - 1 by omega,hpa]
           exact w5)
         (fun h5 => by exfalso; change k ≤ 5 at h5; omega)
       rw [qln,hop]
       show match opE k e a a with | some q => _ | none => _
       cases hc : opE k e a a with
       | none =>
         rfl
       | some q =>
         refine ⟨W ++ [q],?_,by simp only [List.length_append,w2]; rfl,?_⟩
         · show some (V ++ W ++ [q]) = _
           simp only [List.append_assoc]
         · have e1 : pl3.getD (b + z.n - 1) 0 = (p.ins.length : Int) + (ops ++ new1).length := by
             rw [hz,show b + (x.n + 1) - 1 = b + x.n by omega,hpl3]
             exact qia (by omega)
           have e2 : V ++ (W ++ [q]) = V ++ W ++ [q] := by simp only [List.append_assoc]
           rw [e1,e2]
           refine ⟨by omega,by rw [show (V ++ W ++ [q]).length = (V ++ W).length + 1 from List.length_append,hlen]; omega,qlm (by rw [hlen]; omega)⟩
theorem qsn {b : Bool} {s : ByteArray} : ∀ {l : List ByteArray} {i : Nat}, s ∉ l → getK s (yo b l i) = none
 | [],i,h => rfl
 | t :: l, i, h => by
   rw [yo,getK,if_neg (fun e => h (by rw [e]; exact List.mem_cons_self))]
   exact qsn (fun hm => h (List.mem_cons_of_mem _ hm))
theorem qlp {b : Bool} {s : ByteArray} : ∀ {l : List ByteArray} {i j : Nat}, l[j]? = some s → s ∉ l.take j → getK s (yo b l i) = some ⟨b, ((i + j : Nat) : Int)⟩
 | [],i,j,h,_ => by simp at h
 | t :: l, i, 0, h, _ => by
   have e : t = s := Option.some.inj h
   rw [yo,getK,if_pos e.symm]; rfl
 | t :: l, i, j + 1, h, hn => by
   rw [List.take_succ_cons] at hn
   rw [yo,getK,if_neg (fun e => hn (by rw [e]; exact List.mem_cons_self)),qlp (j := j) h (fun hm => hn (List.mem_cons_of_mem _ hm)),show i + 1 + j = i + (j + 1) by omega]
theorem qib {s : ByteArray} : ∀ {l : List ByteArray}, s ∈ l → ∃ j, l[j]? = some s ∧ s ∉ l.take j
 | [],h => by cases h
 | t :: l, h => by
   by_cases e : t = s
   · exact ⟨0,by rw [e]; rfl,by simp⟩
   · rcases List.mem_cons.1 h with h | h
     · exact absurd h.symm e
     · obtain ⟨j, h1, h2⟩ := qib h
       refine ⟨j + 1,h1,fun hm => ?_⟩
       rw [List.take_succ_cons] at hm
       rcases List.mem_cons.1 hm with hm | hm
       · exact e hm.symm
       · exact h2 hm
theorem qso {s : ByteArray} : ∀ {l : List ByteArray} {xs : List Rat} {j : Nat}, l[j]? = some s → s ∉ l.take j → xs.length = l.length → lk s (l.zip xs) = some (xs.getD j 0)
 | [],xs,j,h,_,_ => by simp at h
 | t :: l,[],j,h,_,hl => by simp at hl
 | t :: l, q :: xs, 0, h, _, hl => by
   have e : t = s := Option.some.inj h
   rw [List.zip_cons_cons,lk,if_pos e.symm]; rfl
 | t :: l, q :: xs, j + 1, h, hn, hl => by
   rw [List.take_succ_cons] at hn
   rw [List.zip_cons_cons,lk,if_neg (fun e => hn (by rw [e]; exact List.mem_cons_self)),qso (j := j) h (fun hm => hn (List.mem_cons_of_mem _ hm)) (by simpa using hl)]
   rfl
theorem qsp {s : ByteArray} : ∀ {kv : List (ByteArray × Rat)}, s ∉ kv.map Prod.fst → lk s kv = none
 | [],_ => rfl
 | (t, q) :: kv, h => by
   rw [lk,if_neg (fun e => h (by rw [e]; exact List.mem_cons_self))]
   exact qsp (fun hm => h (List.mem_cons_of_mem _ hm))
theorem qsq {p : qx} (h : (vv p).err = 0) {s : ByteArray} {j : Nat} (hj : p.ins[j]? = some s) (hn : s ∉ p.ins.take j) : v8 p s = (false,(j : Int),true) := by
 rw [qh6 h,qlp hj hn,Nat.zero_add]
theorem qsr {p : qx} (h : (vv p).err = 0) {s : ByteArray} {j : Nat} (hi : s ∉ p.ins) (hj : (p.lets.map LetC.name)[j]? = some s) (hn : s ∉ (p.lets.map LetC.name).take j) : v8 p s = (true,(j : Int),true) := by
 rw [qh6 h,qsn hi,qlp hj hn,Nat.zero_add]
def qa8 : List (ByteArray × Rat) → List (ByteArray × Ex) → Prop
 | _,[] => True
 | kv,(s,x) :: l => ExOK kv x ∧ ∀ q,evE kv x = some q → qa8 (kv ++ [(s,q)]) l
theorem qss {p : qx} (hr : (vv p).err = 0) : ∀ (l : List (ByteArray × Ex)) (j b : Nat) (pl : List Int) (ops : List OpC), qaq l → p.lets.drop j = (laid l b).1 → b + (laid l b).2.length ≤ pl.length →
   ∃ pl' new, (∀ r, yx p ((laid l b).2 ++ r) b pl ops = yx p r (b + (laid l b).2.length) pl' (ops ++ new)) ∧ pl'.length = pl.length ∧ (∀ i, i < b → pl'.getD i 0 = pl.getD i 0) ∧
     ∀ (V : List Rat) (kv : List (ByteArray × Rat)), V.length = p.ins.length + ops.length → kv.map Prod.fst = p.ins ++ (p.lets.map LetC.name).take j → qb6 p kv b pl V (p.ins ++ (p.lets.map LetC.name).take j) → qc1 (p.ins ++ (p.lets.map LetC.name).take j) l →
       (match denE kv l with
       | some vs => ∃ W,opsR new V = some (V ++ W) ∧ W.length = new.length ∧ vs.length = l.length ∧ ∀ i,i < l.length → 0 ≤ pl'.getD ((p.lets.getD (j + i) ⟨⟨#[]⟩,0⟩).root.toNat) 0 ∧ pl'.getD ((p.lets.getD (j + i) ⟨⟨#[]⟩,0⟩).root.toNat) 0 < (V ++ W).length ∧ zth (V ++ W) (pl'.getD ((p.lets.getD (j + i) ⟨⟨#[]⟩,0⟩).root.toNat) 0) = vs.getD i 0
       | none => opsR new V = none) ∧ (zf new V → qa8 kv l)
 | [],j,b,pl,ops,hk,hd,hl => ⟨pl,[],fun r => by rw [List.append_nil]; rfl,rfl,fun _ _ => rfl,fun V kv hV hkv hE hK => ⟨⟨[],by rw [List.append_nil]; rfl,rfl,rfl,fun i hi => absurd hi (Nat.not_lt_zero i)⟩,fun _ => trivial⟩⟩
 | (s, x) :: l, j, b, pl, ops, hk, hd, hl => by
   have e2 : (laid ((s,x) :: l) b).2 = x.nd b ++ (laid l (b + x.n)).2 := rfl
   have e1 : (laid ((s,x) :: l) b).1 = ⟨s,(b : Int) + x.n - 1⟩ :: (laid l (b + x.n)).1 := rfl
   rw [e1] at hd
   have hlen : (laid ((s,x) :: l) b).2.length = x.n + (laid l (b + x.n)).2.length := by rw [e2,List.length_append,x.nd_len]
   rw [hlen] at hl ⊢
   have hxp := x.n_pos
   obtain ⟨pl1,new1,g1,g2,g3,g4⟩ := comp p x b pl ops (hk _ List.mem_cons_self).2 (by omega)
   have hdj : p.lets[j]? = some ⟨s,(b : Int) + x.n - 1⟩ := by
     have := congrArg (fun l : List LetC => l[0]?) hd
     simpa using this
   have hd1 : p.lets.drop (j + 1) = (laid l (b + x.n)).1 := by
     have := congrArg List.tail hd
     rwa [List.tail_drop] at this
   obtain ⟨pl2,new2,f1,f2,f3,f4⟩ := qss hr l (j + 1) (b + x.n) pl1 (ops ++ new1) (fun a ha => hk a (List.mem_cons_of_mem _ ha)) hd1 (by omega)
   refine ⟨pl2,new1 ++ new2,fun r => ?_,by rw [f2,g2],fun i hi => by rw [f3 i (by omega),g3 i hi],fun V kv hV hkv hE hK => ?_⟩
   · rw [e2,List.append_assoc,g1,f1,List.append_assoc,Nat.add_assoc]
   · obtain ⟨hK1, hK2⟩ := hK
     have g5 := g4 V kv hV (fun t ht => hE t (hK1 t ht))
     have hjn : (p.lets.map LetC.name)[j]? = some s := by rw [List.getElem?_map,hdj]; rfl
     have htk : (p.lets.map LetC.name).take (j + 1) = (p.lets.map LetC.name).take j ++ [s] := by rw [List.take_add_one,hjn]; rfl
     have hgd : p.lets.getD j ⟨⟨#[]⟩,0⟩ = ⟨s,(b : Int) + x.n - 1⟩ := by rw [List.getD_eq_getElem?_getD,hdj]; rfl
     have hroot : (p.lets.getD j ⟨⟨#[]⟩,0⟩).root.toNat = b + x.n - 1 := by rw [hgd]; show ((b : Int) + x.n - 1).toNat = _; omega
     have hE2 : ∀ q W, W.length = new1.length → 0 ≤ pl1.getD (b + x.n - 1) 0 → pl1.getD (b + x.n - 1) 0 < (V ++ W).length → zth (V ++ W) (pl1.getD (b + x.n - 1) 0) = q → qb6 p (kv ++ [(s, q)]) (b + x.n) pl1 (V ++ W) (p.ins ++ (p.lets.map LetC.name).take (j + 1)) := fun q W w2 w3 w4 w5 => by
         intro t ht
         by_cases hm : t ∈ p.ins ++ (p.lets.map LetC.name).take j
         · obtain ⟨k1, q', k2, k3⟩ := (hE.up (b' := b + x.n) (pl' := pl1) (W := W) (ns' := p.ins ++ (p.lets.map LetC.name).take j) (Nat.le_add_right _ _) g3 (fun _ h => h)) t hm
           exact ⟨k1,q',qsj k2 _,k3⟩
         · have hts : t = s := by
             rw [htk,← List.append_assoc] at ht
             rcases List.mem_append.1 ht with h | h
             · exact absurd h hm
             · exact List.mem_singleton.1 h
           subst hts
           have hw := qsr hr (fun h => hm (List.mem_append_left _ h)) hjn (fun h => hm (List.mem_append_right _ h))
           have hpz : plcZ p pl1 t = pl1.getD (b + x.n - 1) 0 := by
             unfold plcZ
             rw [hw]
             show (if true = true then _ else _) = _
             rw [if_pos rfl,Int.toNat_natCast,hroot]
           refine ⟨fun _ => ?_,q,?_,by rw [hpz]; exact w3,by rw [hpz]; exact w4,by rw [hpz]; exact w5⟩
           · rw [hw]
             show (p.lets.getD ((j : Int).toNat) _).root.toNat < _
             rw [Int.toNat_natCast,hroot]; omega
           · rw [qgk, qsp (by rw [hkv]; exact hm)]
             show lk t [(t,q)] = _
             rw [lk,if_pos rfl]
     have hF : ∀ q W, W.length = new1.length → 0 ≤ pl1.getD (b + x.n - 1) 0 → pl1.getD (b + x.n - 1) 0 < (V ++ W).length → zth (V ++ W) (pl1.getD (b + x.n - 1) 0) = q → _ := fun q W w2 w3 w4 w5 =>
       f4 (V ++ W) (kv ++ [(s,q)]) (by rw [List.length_append,List.length_append,hV,w2]; omega) (by rw [List.map_append,hkv,htk,List.append_assoc]; rfl) (hE2 q W w2 w3 w4 w5) (by rw [htk,← List.append_assoc]; exact hK2)
     refine ⟨?_,fun h => ?_⟩;rotate_left
     · obtain ⟨h1, h2⟩ := qfa h
       refine ⟨g5.2 h1,fun q ha => ?_⟩
       have g6 := g5.1
       rw [ha] at g6
       obtain ⟨W,w1,w2,w3,w4,w5⟩ := g6
       exact (hF q W w2 w3 w4 w5).2 (h2 _ w1)
     replace g5 := g5.1
     rw [qgj]
     show match (match evE kv x with | some q => (match denE (kv ++ [(s,q)]) l with | some r => some (q :: r) | none => none) | none => none) with | some vs => _ | none => _
     cases ha : evE kv x with
     | none =>
       rw [ha] at g5
       dsimp only at g5 ⊢
       rw [g5]
     | some q =>
       rw [ha] at g5
       dsimp only at g5 ⊢
       obtain ⟨W,w1,w2,w3,w4,w5⟩ := g5
       rw [w1]
       dsimp only
       have f5 := (hF q W w2 w3 w4 w5).1
       cases hb : denE (kv ++ [(s,q)]) l with
       | none =>
         rw [hb] at f5
         exact f5
       | some vs =>
         rw [hb] at f5
         dsimp only at f5 ⊢
         obtain ⟨U,u1,u2,u3,u4⟩ := f5
         refine ⟨W ++ U,by rw [u1,List.append_assoc],by rw [List.length_append,List.length_append,w2,u2],by rw [List.length_cons,List.length_cons,u3],fun i hi => ?_⟩
         rw [← List.append_assoc]
         cases i with
         | zero =>
           rw [Nat.add_zero,hroot,f3 _ (by omega),List.length_append]
           refine ⟨w3,by omega,?_⟩
           rw [qe9 w3 w4]
           exact w5
         | succ i =>
           have := u4 i (by rw [List.length_cons] at hi; omega)
           rw [show j + 1 + i = j + (i + 1) by omega] at this
           exact this
theorem qlq {p : qx} {l : List (ByteArray × Ex)} (hr : (vv p).err = 0) (hl : zm p l) (hk : qc1 p.ins l) (ho : ∀ s ∈ p.outs, s ∈ p.ins ++ l.map Prod.fst) {xs : List Rat} (hx : xs.length = p.ins.length) :
   (match denE (p.ins.zip xs) l with
   | some vs => ∃ W,opsR (lowT p).ops xs = some (xs ++ W) ∧ vs.length = p.lets.length ∧ ∀ s ∈ p.outs,(((v8 p s).1 = true ∧ 0 ≤ (v8 p s).2.1 ∧ (v8 p s).2.1 < vs.length ∧ zth (xs ++ W) (plcZ p (z6 p).1 s) = zth vs (v8 p s).2.1) ∨ ((v8 p s).1 = false ∧ 0 ≤ (v8 p s).2.1 ∧ (v8 p s).2.1 < xs.length ∧ zth (xs ++ W) (plcZ p (z6 p).1 s) = zth xs (v8 p s).2.1))
   | none => opsR (lowT p).ops xs = none) ∧ (zf (lowT p).ops xs → qa8 (p.ins.zip xs) l) := by
 have hn : p.lets.map LetC.name = l.map Prod.fst := by rw [hl.lets]; exact qsl.lets_names l 0
 have hll : p.lets.length = l.length := by rw [hl.lets]; exact qb4 l 0
 obtain ⟨pl',new,f1,f2,f3,f4⟩ := qss hr l 0 0 (List.replicate p.all.length 0) [] hl.ok (by rw [List.drop_zero]; exact hl.lets) (by rw [List.length_replicate,hl.all]; omega)
 have hall : z6 p = (pl',new) := by
   have h := f1 []
   rw [List.append_nil,List.nil_append] at h
   unfold z6
   rw [hl.all] at h ⊢
   exact h
 have hE : qb6 p (p.ins.zip xs) 0 (List.replicate p.all.length 0) xs (p.ins ++ (p.lets.map LetC.name).take 0) := by
   intro s hs
   rw [List.take_zero,List.append_nil] at hs
   obtain ⟨j,h1,h2⟩ := qib hs
   have hw := qsq hr h1 h2
   have hjl := (List.getElem?_eq_some_iff.1 h1).1
   have hpz : plcZ p (List.replicate p.all.length 0) s = (j : Int) := by unfold plcZ; rw [hw]; rfl
   refine ⟨fun h => (by rw [hw] at h; cases h),_,qso h1 h2 hx,by rw [hpz]; omega,by rw [hpz]; omega,?_⟩
   rw [hpz]
   unfold zth
   rw [Int.toNat_natCast]
 have h5 := f4 xs (p.ins.zip xs) (by rw [hx]; rfl) (by rw [List.take_zero,List.append_nil,List.map_fst_zip (by omega)]) hE (by rw [List.take_zero,List.append_nil]; exact hk)
 have ht : (lowT p).ops = new := by show (z6 p).2 = _; rw [hall]
 rw [ht]
 refine ⟨?_,h5.2⟩
 replace h5 := h5.1
 cases hd : denE (p.ins.zip xs) l with
 | none => rw [hd] at h5; exact h5
 | some vs =>
   rw [hd] at h5
   dsimp only at h5 ⊢
   obtain ⟨W,w1,w2,w3,w4⟩ := h5
   refine ⟨W,w1,by omega,fun s hs => ?_⟩
   rw [hall]
   dsimp only
   by_cases hi : s ∈ p.ins
   · obtain ⟨j, h1, h2⟩ := qib hi
     have hw := qsq hr h1 h2
     have hjl := (List.getElem?_eq_some_iff.1 h1).1
     have hpz : plcZ p pl' s = (j : Int) := by unfold plcZ; rw [hw]; rfl
     refine .inr ?_
     rw [hpz,hw]
     exact ⟨rfl,by show (0 : Int) ≤ (j : Nat); omega,by show ((j : Nat) : Int) < _; omega,qe9 (by omega) (by omega)⟩
   · have hm : s ∈ p.lets.map LetC.name := by
       rcases List.mem_append.1 (ho s hs) with h | h
       · exact absurd h hi
       · rw [hn]; exact h
     obtain ⟨j,h1,h2⟩ := qib hm
     have hw := qsr hr hi h1 h2
     have hjl := (List.getElem?_eq_some_iff.1 h1).1
     rw [List.length_map] at hjl
     have hpz : plcZ p pl' s = pl'.getD ((p.lets.getD j ⟨⟨#[]⟩,0⟩).root.toNat) 0 := by
       unfold plcZ; rw [hw]
       show (if true = true then _ else _) = _
       rw [if_pos rfl,Int.toNat_natCast]
     obtain ⟨k1,k2,k3⟩ := w4 j (by omega)
     rw [Nat.zero_add] at k3
     refine .inl ?_
     rw [hpz,hw]
     refine ⟨rfl,by show (0 : Int) ≤ (j : Nat); omega,by show ((j : Nat) : Int) < _; omega,?_⟩
     rw [k3]
     show _ = vs.getD ((j : Int).toNat) 0
     rw [Int.toNat_natCast]
def outE (p : qx) (vs xs : List Rat) (s : ByteArray) : Rat := if (v8 p s).1 = true then zth vs (v8 p s).2.1 else zth xs (v8 p s).2.1
theorem q1w {p : qx} {l : List (ByteArray × Ex)} (hr : (vv p).err = 0) (hl : zm p l) (hk : qc1 p.ins l) (ho : ∀ s ∈ p.outs, s ∈ p.ins ++ l.map Prod.fst) (hw : (vw (lowT p)).isSome = true) {xs : List NV} (hx : xs.length = p.ins.length) :
   qaf (lowT p) xs = match denE (p.ins.zip (xs.map NV.q)) l with
     | some vs => .ok (p.outs.map (outE p vs (xs.map NV.q)))
     | none => .error 3 := by
 obtain ⟨h1,_⟩ := qlq hr hl hk ho (xs := xs.map NV.q) (by rw [List.length_map]; exact hx)
 have he : y9 (lowT p) xs = match opsR (lowT p).ops (xs.map NV.q) with | some l => .ok l | none => .error 3 := by
   unfold y9
   rw [if_neg (by rw [hw]; decide),if_neg (by show ¬ ((xs.length : Int) ≠ (p.ins.length : Nat)); omega)]
   cases opsR (lowT p).ops (xs.map NV.q) <;> rfl
 unfold qaf
 rw [he]
 cases hd : denE (p.ins.zip (xs.map NV.q)) l with
 | none =>
   rw [hd] at h1
   dsimp only at h1 ⊢
   rw [h1]
 | some vs =>
   rw [hd] at h1
   dsimp only at h1 ⊢
   obtain ⟨W,w1,w2,w3⟩ := h1
   rw [w1]
   dsimp only
   congr 1
   show (p.outs.map (plcZ p (z6 p).1)).map (zth (xs.map NV.q ++ W)) = _
   rw [List.map_map]
   refine List.map_congr_left fun s hs => ?_
   unfold outE
   rcases w3 s hs with ⟨k1,_,_,k4⟩ | ⟨k1,_,_,k4⟩
   · rw [if_pos k1]; exact k4
   · rw [if_neg (by rw [k1]; decide)]; exact k4
theorem q1x {p : qx} {l : List (ByteArray × Ex)} (hr : (vv p).err = 0) (hl : zm p l) (hk : qc1 p.ins l) (ho : ∀ s ∈ p.outs, s ∈ p.ins ++ l.map Prod.fst) {xs vs : List Rat} (hx : xs.length = p.ins.length) (hd : denE (p.ins.zip xs) l = some vs) {s : ByteArray} (hs : s ∈ p.outs) :
   vs.length = p.lets.length ∧ (((v8 p s).1 = true ∧ 0 ≤ (v8 p s).2.1 ∧ (v8 p s).2.1 < vs.length) ∨ ((v8 p s).1 = false ∧ 0 ≤ (v8 p s).2.1 ∧ (v8 p s).2.1 < xs.length)) := by
 obtain ⟨h1,_⟩ := qlq hr hl hk ho hx
 rw [hd] at h1
 dsimp only at h1
 obtain ⟨W,w1,w2,w3⟩ := h1
 refine ⟨w2,?_⟩
 rcases w3 s hs with ⟨k1,k2,k3,_⟩ | ⟨k1,k2,k3,_⟩
 · exact .inl ⟨k1,k2,k3⟩
 · exact .inr ⟨k1,k2,k3⟩
theorem qlr {p : qx} : ∀ (r : List NodeC) (i : Nat) (pl : List Int) (ops : List OpC), (∀ c ∈ r, NodeC.few 3000 c) → (∀ o ∈ ops, OpC.few 3000 o) → ∀ o ∈ (yx p r i pl ops).2, OpC.few 3000 o
 | [],i,pl,ops,_,ho => ho
 | c :: r, i, pl, ops, hc, ho => by
   rw [yx]
   split
   · exact qlr r _ _ _ (fun x hx => hc x (List.mem_cons_of_mem _ hx)) ho
   · refine qlr r _ _ _ (fun x hx => hc x (List.mem_cons_of_mem _ hx)) (fun o hx => ?_)
     rcases List.mem_append.1 hx with hx | hx
     · exact ho o hx
     · rw [List.mem_singleton.1 hx]; exact hc c List.mem_cons_self
theorem q1y {p : qx} {l : List (ByteArray × Ex)} (hr : (vv p).err = 0) (hl : zm p l) (hk : qc1 p.ins l) (ho : ∀ s ∈ p.outs, s ∈ p.ins ++ l.map Prod.fst) (hw : (vw (lowT p)).isSome = true) {xs : List NV} (hx : xs.length = p.ins.length) (hf : ∀ c ∈ p.all, NodeC.few 3000 c) (hq : ∀ x ∈ xs, BdQ 1 x.q) (hn : ∀ x ∈ xs, x.n.length ≤ 3000 ∧ x.d.length ≤ 3000) :
   EvOK (lowT p) xs ∧ qa8 (p.ins.zip (xs.map NV.q)) l := by
 have hfo : ∀ o ∈ (lowT p).ops,OpC.few 3000 o := qlr p.all 0 _ [] hf (fun o h => by cases h)
 obtain ⟨b1,b2⟩ := qj3 (t := lowT p) (xs := xs) hfo hq hn
 refine ⟨b2,(qlq hr hl hk ho (xs := xs.map NV.q) (by rw [List.length_map]; exact hx)).2 ?_⟩;exact b1.ok hw (by show (xs.length : Int) = (p.ins.length : Nat); omega)
theorem qls {k e : Int} {a b : Rat} (h : 2 ≤ k) (h7 : k ≤ 7) : Tw.opP ⟨k,0,0,e,false,[],[]⟩ a b = opE k e a b := by
 unfold Tw.opP opE
 rcases (show k = 2 ∨ k = 3 ∨ k = 4 ∨ k = 5 ∨ k = 6 ∨ k = 7 by omega) with rfl | rfl | rfl | rfl | rfl | rfl <;> simp
theorem q1z {e : Int} {a b : Rat} : opE 6 e a b = opE 6 0 a a := by unfold opE; simp
theorem q10 {k e : Int} {a b : Rat} (h : k ≤ 5) : opE k e a b = opE k 0 a b := by
 unfold opE
 rw [if_neg (show ¬ k = 7 by omega),if_neg (show ¬ k = 7 by omega)]
theorem qlt {s : ByteArray} : ∀ {l : List ByteArray} {xs : List Rat} {j : Nat} {q : Rat}, l[j]? = some s → s ∉ l.take j → xs[j]? = some q → lk s (l.zip xs) = some q
 | [],xs,j,q,h,_,_ => by simp at h
 | t :: l,[],j,q,h,_,hq => by simp at hq
 | t :: l, x :: xs, 0, q, h, _, hq => by
   cases Option.some.inj h
   cases Option.some.inj hq
   rw [List.zip_cons_cons,lk,if_pos rfl]
 | t :: l, x :: xs, j + 1, q, h, hn, hq => by
   rw [List.take_succ_cons,List.mem_cons] at hn
   rw [List.zip_cons_cons,lk,if_neg (fun e => hn (.inl e))]
   exact qlt (l := l) (xs := xs) (j := j) h (fun e => hn (.inr e)) hq
theorem qic {s : ByteArray} : ∀ {l : List ByteArray} {xs : List Rat}, s ∉ l.take xs.length → lk s (l.zip xs) = none
 | [],xs,_ => rfl
 | t :: l,[],_ => rfl
 | t :: l, x :: xs, hn => by
   rw [List.length_cons,List.take_succ_cons,List.mem_cons] at hn
   rw [List.zip_cons_cons,lk,if_neg (fun e => hn (.inl e))]
   exact qic (l := l) (xs := xs) (fun e => hn (.inr e))
theorem qst {s : ByteArray} {q : Rat} : ∀ {l : List ByteArray} {xs : List Rat}, l[xs.length]? = some s → l.zip (xs ++ [q]) = l.zip xs ++ [(s, q)]
 | [],xs,h => by simp at h
 | t :: l,[],h => by cases Option.some.inj h; simp
 | t :: l, x :: xs, h => by
   show (t,x) :: l.zip (xs ++ [q]) = (t,x) :: l.zip xs ++ [(s,q)]
   rw [qst (l := l) (xs := xs) h]; rfl
def kvD (p : qx) (xs vs : List Rat) : List (ByteArray × Rat) := p.ins.zip xs ++ (p.lets.map LetC.name).zip vs
theorem qsu {p : qx} {xs vs : List Rat} {q : Rat} {c : LetC} (h : p.lets[vs.length]? = some c) : kvD p xs (vs ++ [q]) = kvD p xs vs ++ [(c.name,q)] := by
 unfold kvD
 rw [qst (s := c.name) (by rw [List.getElem?_map,h]; rfl),List.append_assoc]
theorem q11 {p : qx} {xs vs : List Rat} {j : Nat} {s : ByteArray} {q : Rat} (h : p.ins[j]? = some s) (hn : s ∉ p.ins.take j) (hq : xs[j]? = some q) : lk s (kvD p xs vs) = some q := qsj (qlt h hn hq) _
theorem q12 {p : qx} {xs vs : List Rat} {j : Nat} {s : ByteArray} {q : Rat} (hi : s ∉ p.ins.take xs.length) (h : (p.lets.map LetC.name)[j]? = some s) (hn : s ∉ (p.lets.map LetC.name).take j) (hq : vs[j]? = some q) : lk s (kvD p xs vs) = some q := by
 unfold kvD
 rw [qgk,qic hi]
 exact qlt h hn hq
theorem q13 {p : qx} {xs vs : List Rat} {s : ByteArray} (hi : s ∉ p.ins.take xs.length) (hn : s ∉ (p.lets.map LetC.name).take vs.length) : lk s (kvD p xs vs) = none := by
 unfold kvD
 rw [qgk,qic hi]
 exact qic hn
theorem qsv {α : Type} {l : List α} {i : Nat} {s t : α} (h : l[i]? = some t) (hn : s ∉ l.take i) (hne : t ≠ s) : s ∉ l.take (i + 1) := by
 rw [List.take_add_one,h]
 intro hm
 rcases List.mem_append.1 hm with hm | hm
 · exact hn hm
 · exact hne (List.mem_singleton.1 hm).symm
theorem qsw {kv : List (ByteArray × Rat)} {l : List (ByteArray × Ex)} {i : Nat} {s : ByteArray} {x : Ex} (h : l[i]? = some (s, x)) : denE kv (l.drop i) = match evE kv x with
   | some q => (match denE (kv ++ [(s,q)]) (l.drop (i + 1)) with | some r => some (q :: r) | none => none)
   | none => none := by
 rw [List.drop_eq_getElem_cons (List.getElem?_eq_some_iff.1 h).1,(List.getElem?_eq_some_iff.1 h).2]; rfl
theorem q14 {kv : List (ByteArray × Rat)} {l : List (ByteArray × Ex)} {i : Nat} {s : ByteArray} {x : Ex} (h : l[i]? = some (s,x)) (hd : qa8 kv (l.drop i)) : ExOK kv x ∧ ∀ q,evE kv x = some q → qa8 (kv ++ [(s,q)]) (l.drop (i + 1)) := by
 rw [List.drop_eq_getElem_cons (List.getElem?_eq_some_iff.1 h).1,(List.getElem?_eq_some_iff.1 h).2] at hd; exact hd
def denM (kv : List (ByteArray × Rat)) (l : List (ByteArray × Ex)) (vs : List Rat) : Option (List Rat) := match denE kv l with | some r => some (vs ++ r) | none => none
theorem qsx {kv : List (ByteArray × Rat)} {l : List (ByteArray × Ex)} {i : Nat} {s : ByteArray} {x : Ex} {vs : List Rat} {q : Rat} (h : l[i]? = some (s,x)) (hq : evE kv x = some q) : denM kv (l.drop i) vs = denM (kv ++ [(s,q)]) (l.drop (i + 1)) (vs ++ [q]) := by
 unfold denM
 rw [qsw h,hq]
 dsimp only
 cases denE (kv ++ [(s,q)]) (l.drop (i + 1)) with
 | none => rfl
 | some r => show some (vs ++ q :: r) = some (vs ++ [q] ++ r); rw [List.append_assoc]; rfl
theorem qsy {kv : List (ByteArray × Rat)} {l : List (ByteArray × Ex)} {i : Nat} {s : ByteArray} {x : Ex} {vs : List Rat} (h : l[i]? = some (s,x)) (hq : evE kv x = none) : denM kv (l.drop i) vs = none := by
 unfold denM
 rw [qsw h,hq]
theorem q15 {kv : List (ByteArray × Rat)} {vs : List Rat} : denM kv [] vs = some vs := by
 show some (vs ++ []) = _; rw [List.append_nil]
def denX (r : Option (List Rat)) : Except Int (List Rat) := match r with | some vs => .ok vs | none => .error 3
theorem q16 {kv : List (ByteArray × Rat)} {l : List NodeC} {i : Int} {x : Ex} {c : NodeC} (h : yn l i x) (hc : l[i.toNat]? = some c) (hk : ExOK kv x) (h0 : c.kind ≠ 0) (h1 : c.kind ≠ 1) :
   ∃ y, yn l c.a y ∧ y.n < x.n ∧ ExOK kv y ∧ (evE kv y = none → evE kv x = none) ∧ ∀ a, evE kv y = some a → 2 ≤ c.kind ∧ c.kind ≤ 7 ∧
     (c.kind ≤ 5 → ∃ z,yn l c.b z ∧ z.n < x.n ∧ ExOK kv z ∧ (evE kv z = none → evE kv x = none) ∧ ∀ b,evE kv z = some b → evE kv x = Tw.opP ⟨c.kind,0,0,c.e,false,[],[]⟩ a b ∧ Few 1400 a ∧ Few 1400 b) ∧
     (5 < c.kind → evE kv x = Tw.opP ⟨c.kind,0,0,c.e,false,[],[]⟩ a a ∧ Few 1400 a ∧ (c.kind = 7 → ∃ d,Few d a ∧ d ≤ 1300 ∧ d * c.e.natAbs ≤ 1300 ∧ -64 ≤ c.e ∧ c.e ≤ 64)) := by
 obtain ⟨e0,e1,e2,e3,e4,e5⟩ := qq1 h hc
 by_cases h6 : c.kind = 6
 · obtain ⟨y, rfl, hy, hyn⟩ := e3 h6
   obtain ⟨k1,k2⟩ := hk
   refine ⟨y,hy,hyn,k1,fun hn => by unfold evE; rw [hn],fun a ha => ⟨by omega,by omega,fun h5 => by omega,fun _ => ⟨?_,k2 a ha,fun h7 => by omega⟩⟩⟩
   unfold evE
   rw [ha,qls (by omega) (by omega),h6,q1z]
 by_cases h7 : c.kind = 7
 · obtain ⟨y, rfl, hy, hyn⟩ := e4 h7
   obtain ⟨k1,k2⟩ := hk
   refine ⟨y,hy,hyn,k1,fun hn => by unfold evE; rw [hn],fun a ha => ⟨by omega,by omega,fun h5 => by omega,fun _ => ⟨?_,(k2 a ha).1,fun _ => (k2 a ha).2⟩⟩⟩
   unfold evE
   rw [ha,qls (by omega) (by omega),h7]
 · obtain ⟨y, z, rfl, hy, hz, hyn, hzn, q2, q5⟩ := e5 h0 h1 h6 h7
   obtain ⟨k1,k2⟩ := hk
   refine ⟨y,hy,hyn,k1,fun hn => by rw [evE,hn],fun a ha => ⟨by omega,by omega,fun _ => ⟨z,hz,hzn,(k2 a ha).1,fun hn => by rw [evE,ha,hn],fun b hb => ⟨?_,(k2 a ha).2 b hb⟩⟩,fun h5 => by omega⟩⟩
   rw [evE,ha,hb,qls (by omega) (by omega)]
   exact (q10 q5).symm
theorem qsz {I : Hp} {r : Option Rat} (h : r = none) : opT r I (.tuple #[.agg #[.bool false,.slice none 0 0,.slice none 0 0],.int .i64 3]) := by
 subst h
 exact ⟨_,_,_,[],[],rfl,Ws.nil _,Ws.nil _,fun q h => by cases h⟩
theorem sum_bad {all : List NodeC} {L r : List Tok} (h : Ps .atom all L (.bad r)) (h1 : hdT L 2 zh = false) : Ps .sum all L (.bad r) := .sum_bad (.product_bad (.fac h1 (.power_bad h)))
def _root_.Go.Tw.LSO.left : LSO → List Tok
 | .bad r => r
 | .ok _ _ r => r
theorem q17 (l : List ByteArray) : (scs l).flatten = l.map Value.string := by
 induction l with
 | nil => rfl
 | cons s l ih => simp only [scs,List.map_cons,List.flatten_cons] at ih ⊢; rw [ih]; rfl
theorem q18 (l : List ByteArray) : ∀ c ∈ scs l,jo c = true := by
 intro c hc
 obtain ⟨x,_,rfl⟩ := List.mem_map.1 hc
 rfl
abbrev rtR (u : Value) (rs : List RV) : Tw.Item := .row u 48 3 rs.length (rcs rs).flatten
theorem qlu (vi vl vo va vx u : Value) (p : qx) (ns : List qk) (xs : List NV) (rs : List RV) (hf : ∀ o ∈ ns, o.c.few 3000) (hxl : xs.length = p.ins.length) (hxs : ∀ x ∈ xs, x.n.length ≤ 3000 ∧ x.d.length ≤ 3000) (hrl : rs.length ≤ p.lets.length) (hn : ns.length ≤ 1000 ∧ p.ins.length ≤ 1000 ∧ p.lets.length ≤ 1000) : ∀ (N : Nat) (x : Ex), x.n ≤ N → ∀ (I : Hp), y5 I vi vl vo va p ns → PtV I vx xs → (∀ r ∈ rs, r.ok I) → ∀ (i : Int), yn (ns.map qk.c) i x → ExOK (kvD p (xs.map NV.q) (rs.map RV.q)) x →
   Fun prog 29 [.agg #[vi,vl,vo,va],.int .i64 i,vx,u] I [rtR u rs] (fun v I' B' => B' = [rtR u rs] ∧ opT (evE (kvD p (xs.map NV.q) (rs.map RV.q)) x) I' v)
 | 0,x,hx,_,_,_,_,_,_,_ => absurd hx (by have := x.n_pos; omega)
 | N + 1, x, hx, I, hp, hpt, hrs, i, hi, hk => by
   have ih := qlu vi vl vo va vx u p ns xs rs hf hxl hxs hrl hn N
   have hsi := hp.si
   have hsl := hp.sl
   have hso := hp.so
   have hsa := hp.sa
   have hln := z4 ns
   have hli := jf p.ins
   have hll : (p.lets.map LetC.cells).length = p.lets.length := List.length_map _
   have hxc : (xs.map NV.cells).length = xs.length := List.length_map _
   have hin := hi.in_
   rw [List.length_map] at hin
   obtain ⟨k,rfl⟩ : ∃ k : Nat,i = k := ⟨i.toNat,by omega⟩
   obtain ⟨o,ho⟩ : ∃ o,ns[k]? = some o := ⟨ns[k]'(by omega),List.getElem?_eq_getElem (by omega)⟩
   have hoc : (ns.map qk.c)[((k : Nat) : Int).toNat]? = some o.c := by rw [Int.toNat_natCast,List.getElem?_map,ho]; rfl
   have hom := List.mem_of_getElem? ho
   have hw1 : Ws I o.vn o.c.n := (hp.ok o hom).1
   have hw2 : Ws I o.vd o.c.d := (hp.ok o hom).2
   obtain ⟨e0,e1,e2,e3,e4,e5⟩ := qq1 hi hoc
   intro w hw
   refine qfd _ func29 rfl ntmps29 rfl ?_ hw;refine sR ?_;refine qo trivial rfl rfl rfl (fun b4 => ?_);refine qh trivial rfl zeroValue48 rfl (fun b8 => ?_);refine oV ?_;refine nS ?_;refine oF 3 underlying29 sizeOf27 ?_;refine oL isAgg27 ?_;refine oV ?_;refine vk trivial rfl underlying27 sizeOf67 rfl (hsa) rfl (by omega) ?_;refine y7 trivial rfl isAgg67 sizeOf67 rfl rfl (qa6 hsa ho) ?_;refine qh trivial rfl zeroValue67 rfl (fun b10 => ?_);refine oS sizeOf67 ?_;refine nU ?_;refine oF 0 underlying67 sizeOf3 ?_;refine oL isAgg3 ?_;refine oV ?_;refine nT ?_;refine cC rfl (fun h1 => ?_) (fun h1 => ?_)
   ·
    have f1 := h1;try simp only [bl] at f1
    obtain rfl := e1 f1
    obtain ⟨q,hq⟩ := hk
    refine cS (sR ?_);refine oV ?_;refine oN (tC (cB ?_));refine qu (ι := Nat) [2,3,4,8,10] (.cons rfl (.cons rfl (.cons rfl (.cons rfl (.cons rfl .nil))))) (fun x => p.ins.length - x) (fun x E0 => (11,.int .i64 (x : Nat)) :: E0) (fun x => St w (je [rtR u rs]) I [.box b10 (.cells #[.int .i64 o.c.kind,.int .i64 o.c.a,.int .i64 o.c.b,.int .i64 o.c.e,.string o.c.name,.bool o.c.neg,o.vn,o.vd] 67 (0,0)),.box b8 (.cells #[.bool false,.slice none 0 0,.slice none 0 0] 48 (0,0)),.box b4 (.cells #[vi,vl,vo,va] 29 (0,0)),rtR u rs]) (fun x => x ≤ p.ins.length ∧ o.c.name ∉ p.ins.take x) (0) (sC rfl (sC rfl (sC rfl (sC rfl (sC rfl (sC rfl sN)))))) (fun _ h => h) (⟨Nat.zero_le _,List.not_mem_nil⟩) ?_;rintro j ⟨hj,hnj⟩
    try dsimp only
    refine cS (sR ?_);refine oV ?_;refine oF 0 underlying29 sizeOf25 ?_;refine oL isAgg25 ?_;refine qw trivial rfl underlying25 rfl (hsi) ?_;refine oV ?_;refine nT ?_;refine cC rfl (fun h2 => ?_) (fun h2 => ?_)
    ·
     have f2 := h2;try simp only [bl] at f2
     obtain ⟨t,ht⟩ : ∃ t,p.ins[j]? = some t := ⟨p.ins[j]'(by omega),List.getElem?_eq_getElem (by omega)⟩
     obtain ⟨y,hy⟩ : ∃ y,xs[j]? = some y := ⟨xs[j]'(by omega),List.getElem?_eq_getElem (by omega)⟩
     have hym := List.mem_of_getElem? hy
     refine cK (tC (cS (cB (cS ?_))));refine jn (by kernel_rfl) (by kernel_rfl) (fun _ h => h.drawn) ?_;refine oF 0 underlying29 sizeOf25 ?_;refine oL isAgg25 ?_;refine oV ?_;refine vk trivial rfl underlying25 sizeOf9 rfl (hsi) rfl (by omega) ?_;refine q8 trivial rfl isAgg9 rfl (zn hsi ht) ?_;refine oF 4 underlying67 sizeOf9 ?_;refine oL isAgg9 ?_;refine oV ?_;refine nT ?_;refine cC rfl (fun h3 => ?_) (fun h3 => ?_)
     ·
      have f3 := h3;try simp only [bl] at f3
      obtain rfl := qgh f3
      have hev : evE (kvD p (xs.map NV.q) (rs.map RV.q)) (.ref o.c.name) = some y.q := q11 ht hnj (by rw [List.getElem?_map,hy]; rfl)
      refine sR ?_;iterate 2 refine oV ?_
      refine vk trivial rfl underlying39 sizeOf48 rfl (hpt.s) rfl (by omega) ?_;refine y7 trivial rfl isAgg48 sizeOf48 rfl rfl (NV.at_ hpt hy) ?_;refine oI call43 rfl (qf0 y.neg _ _ _ _ (hpt.ok y hym).1 (hpt.ok y hym).2 (hxs y hym).1 (hxs y hym).2) ?_;rintro _ I1 hx1 ⟨u1,u2,rfl,k1,k2⟩;refine oS sizeOf48 ?_;refine oV ?_;refine oN (tC (cT (qd (tR (tR (qd (tR (tR ?_))))))));refine retR rfl (.agg isAgg48 sizeOf48 rfl (by repeat constructor) rfl (.tmp rfl .nil)) ?_;refine fun w' hw' => ⟨I1,[rtR u rs],hw'.sort (by repeat constructor),hx1,rfl,?_⟩
      rw [hev]; exact qcu k1 k2
     have f3 := h3;try simp only [bl] at f3
     refine cK (qe (tC (cR ?_)));refine oV ?_
     (refine qf trivial rfl rfl rfl ?_ ?_; (omega))
     refine oV ?_;refine oN ?_;exact qj (j + 1) (sC rfl (sC rfl (sC rfl (sC rfl (sC rfl (sC rfl sN)))))) (fun _ h => h) (by show p.ins.length - (j + 1) < p.ins.length - j; omega) ⟨by show j + 1 ≤ _; omega,qsv ht hnj (fun e => f3 (by rw [e]))⟩
    have f2 := h2;try simp only [bl] at f2
    have hni : o.c.name ∉ p.ins.take (xs.map NV.q).length := by rw [List.length_map,hxl,show p.ins.length = j by omega]; exact hnj
    refine qq (qc (qc (qp rfl (tC (cS (sR ?_))))));refine oV ?_;refine oN (tC (cB ?_));refine qu (ι := Nat) [3,4,8,10] (.cons rfl (.cons rfl (.cons rfl (.cons rfl .nil)))) (fun x => rs.length - x) (fun x E0 => (12,.int .i64 (x : Nat)) :: E0) (fun x => St w (je [rtR u rs]) I [.box b10 (.cells #[.int .i64 o.c.kind,.int .i64 o.c.a,.int .i64 o.c.b,.int .i64 o.c.e,.string o.c.name,.bool o.c.neg,o.vn,o.vd] 67 (0,0)),.box b8 (.cells #[.bool false,.slice none 0 0,.slice none 0 0] 48 (0,0)),.box b4 (.cells #[vi,vl,vo,va] 29 (0,0)),rtR u rs]) (fun x => x ≤ rs.length ∧ o.c.name ∉ (p.lets.map LetC.name).take x) (0) (sC rfl (sC rfl (sC rfl (sC rfl (sC rfl sN))))) (fun _ h => h) (⟨Nat.zero_le _,List.not_mem_nil⟩) ?_;rintro l ⟨hl,hnl⟩
    try dsimp only
    refine cS (sR ?_);iterate 2 refine oV ?_
    refine yi trivial rfl underlying39 rfl (by repeat constructor) ?_;refine oV ?_;refine nT ?_;refine cC rfl (fun h4 => ?_) (fun h4 => ?_)
    ·
     have f4 := h4;try simp only [bl] at f4
     obtain ⟨c,hc⟩ : ∃ c,p.lets[l]? = some c := ⟨p.lets[l]'(by omega),List.getElem?_eq_getElem (by omega)⟩
     obtain ⟨r,hr⟩ : ∃ r,rs[l]? = some r := ⟨rs[l]'(by omega),List.getElem?_eq_getElem (by omega)⟩
     obtain ⟨k1,k2⟩ := hrs r (List.mem_of_getElem? hr)
     have hcn : (p.lets.map LetC.name)[l]? = some c.name := by rw [List.getElem?_map,hc]; rfl
     refine cK (tC (cS (cB (cS ?_))));refine jn (by kernel_rfl) (by kernel_rfl) (fun _ h => h.drawn) ?_;refine oF 1 underlying29 sizeOf26 ?_;refine oL isAgg26 ?_;refine oV ?_;refine vk trivial rfl underlying26 sizeOf72 rfl (hsl) rfl (by omega) ?_;refine oF 0 underlying72 sizeOf9 ?_;refine q8 trivial rfl isAgg9 rfl (qbq hsl hc 0 _ rfl) ?_;refine oF 4 underlying67 sizeOf9 ?_;refine oL isAgg9 ?_;refine oV ?_;refine nT ?_;refine cC rfl (fun h5 => ?_) (fun h5 => ?_)
     ·
      have f5 := h5;try simp only [bl] at f5
      have hcs := qgh f5
      rw [hcs] at hcn
      have hev : evE (kvD p (xs.map NV.q) (rs.map RV.q)) (.ref o.c.name) = some r.q := q12 hni hcn hnl (by rw [List.getElem?_map,hr]; rfl)
      refine sR ?_;iterate 2 refine oV ?_
      refine yp trivial rfl underlying39 sizeOf48 rfl (by repeat constructor) rfl (by omega) ?_;refine zp trivial rfl isAgg48 sizeOf48 (by repeat constructor) rfl rfl (zw hr) ?_;refine oS sizeOf48 ?_;refine oV ?_;refine oN (tC (cT (qd (tR (tR (qd (tR (tR ?_))))))));refine retR rfl (.agg isAgg48 sizeOf48 rfl (by repeat constructor) rfl (.tmp rfl .nil)) ?_;refine fun w' hw' => ⟨I,[rtR u rs],hw'.sort (by repeat constructor),Ext.refl _ _,rfl,?_⟩
      rw [hev]; exact qcu k1 k2
     have f5 := h5;try simp only [bl] at f5
     refine cK (qe (tC (cR ?_)));refine oV ?_
     (refine qf trivial rfl rfl rfl ?_ ?_; (omega))
     refine oV ?_;refine oN ?_;exact qj (l + 1) (sC rfl (sC rfl (sC rfl (sC rfl (sC rfl sN))))) (fun _ h => h) (by show rs.length - (l + 1) < rs.length - l; omega) ⟨by show l + 1 ≤ _; omega,qsv hcn hnl (fun e => f5 (by rw [e]))⟩
    have f4 := h4;try simp only [bl] at f4
    exfalso
    have hnn := q13 (p := p) (xs := xs.map NV.q) (vs := rs.map RV.q) hni (by rw [List.length_map,show rs.length = l by omega]; exact hnl)
    rw [hnn] at hq; cases hq
   have f1 := h1;try simp only [bl] at f1
   refine cK (tC (cS (sR ?_)));refine oF 0 underlying67 sizeOf3 ?_;refine oL isAgg3 ?_;refine oV ?_;refine nT ?_;refine cC rfl (fun h6 => ?_) (fun h6 => ?_)
   ·
    have f6 := h6;try simp only [bl] at f6
    obtain ⟨q,rfl,hcq⟩ := e2 f6
    have hfo := hf o hom
    have hev : evE (kvD p (xs.map NV.q) (rs.map RV.q)) (.num q) = some (lowQ o.c.neg (val o.c.n) (val o.c.d)) := by
      rw [hcq]
      show some q = some (lowQ (decide (q.num < 0)) (val (natW _)) (val (natW _)))
      rw [qb,qb,qa3]
    refine sR ?_;refine oF 5 underlying67 sizeOf48 ?_;refine oA isAgg48 sizeOf48 ?_;refine oI call43 rfl (qf0 o.c.neg _ _ _ _ hw1 hw2 hfo.1 hfo.2) ?_;rintro _ I1 hx1 ⟨u1,u2,rfl,k1,k2⟩;refine oS sizeOf48 ?_;refine oV ?_;refine nF ?_;refine retR rfl (.agg isAgg48 sizeOf48 rfl (by repeat constructor) rfl (.tmp rfl .nil)) ?_;refine fun w' hw' => ⟨I1,[rtR u rs],hw'.sort (by repeat constructor),hx1,rfl,?_⟩
    rw [hev]; exact qcu k1 k2
   have f6 := h6;try simp only [bl] at f6
   obtain ⟨y,hy,hyn,hky,hno,hso1⟩ := q16 hi hoc hk f1 f6
   refine kS ?_;refine oA isAgg29 sizeOf29 ?_;refine oF 1 underlying67 sizeOf3 ?_;refine oL isAgg3 ?_;iterate 2 refine oV ?_
   refine oC trivial rfl call29 rfl (ih y (by omega) I hp hpt hrs o.c.a hy hky) (by repeat constructor) ?_;rintro _ I1 _ hx1 ⟨rfl,s1,x1,y1,X1,Y1,rfl,k1,k2,k3⟩;iterate 3 refine oV ?_
   refine qh trivial rfl zeroValue48 rfl (fun b13 => ?_);refine oS sizeOf48 ?_;refine oV ?_;refine nU ?_;iterate 2 refine oV ?_
   refine nT ?_;refine cC rfl (fun h7 => ?_) (fun h7 => ?_)
   ·
    have f7 := h7;try simp only [bl] at f7
    have hyn1 : evE (kvD p (xs.map NV.q) (rs.map RV.q)) y = none := by
      cases hc : evE (kvD p (xs.map NV.q) (rs.map RV.q)) y with
      | none => rfl
      | some a => rw [hc] at f7; exact absurd rfl f7
    refine sR ?_;refine vg trivial rfl (zd) rfl .nil ?_;refine oV ?_;refine oS sizeOf48 ?_;refine oV ?_;refine nF ?_;refine retR rfl (.agg isAgg48 sizeOf48 rfl (by repeat constructor) rfl (.tmp rfl .nil)) ?_;refine fun w' hw' => ⟨I1,[rtR u rs],hw'.sort (by repeat constructor),hx1,rfl,?_⟩
    rw [hyn1]; exact qsz (hno hyn1)
   have f7 := h7;try simp only [bl] at f7
   obtain ⟨a,ha⟩ : ∃ a,evE (kvD p (xs.map NV.q) (rs.map RV.q)) y = some a := by
     cases hc : evE (kvD p (xs.map NV.q) (rs.map RV.q)) y with
     | none => rw [hc] at f7; exact absurd f7 (by decide)
     | some a => exact ⟨a,rfl⟩
   obtain ⟨rfl,rfl,rfl⟩ := k3 a ha
   obtain ⟨q2,q7,hbin,huna⟩ := hso1 a ha
   refine kS ?_;refine oA isAgg48 sizeOf48 ?_;refine qh trivial rfl zeroValue48 rfl (fun b15 => ?_);refine oS sizeOf48 ?_;refine nU ?_;refine oF 0 underlying67 sizeOf3 ?_;refine oL isAgg3 ?_;refine oV ?_;refine nT ?_;refine cC rfl (fun h8 => ?_) (fun h8 => ?_)
   ·
    have f8 := h8;try simp only [bl] at f8
    obtain ⟨z,hz,hzn,hkz,hnz,hso2⟩ := hbin f8
    refine sR ?_;refine oA isAgg29 sizeOf29 ?_;refine oF 2 underlying67 sizeOf3 ?_;refine oL isAgg3 ?_;iterate 2 refine oV ?_
    refine oC trivial rfl call29 rfl (ih z (by omega) I1 (hp.le hx1.le) (hpt.le hx1.le) (fun r hr => (hrs r hr).le hx1.le) o.c.b hz hkz) (by repeat constructor) ?_;rintro _ I2 _ hx2 ⟨rfl,s2,x2,y2,X2,Y2,rfl,j1,j2,j3⟩;iterate 3 refine oV ?_
    refine qh trivial rfl zeroValue48 rfl (fun b16 => ?_);refine oS sizeOf48 ?_;refine oV ?_;refine nU ?_;iterate 2 refine oV ?_
    refine nT ?_;refine cC rfl (fun h9 => ?_) (fun h9 => ?_)
    ·
     have f9 := h9;try simp only [bl] at f9
     have hzn1 : evE (kvD p (xs.map NV.q) (rs.map RV.q)) z = none := by
       cases hc : evE (kvD p (xs.map NV.q) (rs.map RV.q)) z with
       | none => rfl
       | some a => rw [hc] at f9; exact absurd rfl f9
     refine sR ?_;refine vg trivial rfl (zd) rfl .nil ?_;refine oV ?_;refine oS sizeOf48 ?_;refine oV ?_;refine oN (tC (cT (tR (tR ?_))));refine retR rfl (.agg isAgg48 sizeOf48 rfl (by repeat constructor) rfl (.tmp rfl .nil)) ?_;refine fun w' hw' => ⟨I2,[rtR u rs],hw'.sort (by repeat constructor),hx1.trans hx2 (Nat.le_refl _),rfl,?_⟩
     rw [hzn1]; exact qsz (hnz hzn1)
    have f9 := h9;try simp only [bl] at f9
    obtain ⟨b,hb⟩ : ∃ b,evE (kvD p (xs.map NV.q) (rs.map RV.q)) z = some b := by
      cases hc : evE (kvD p (xs.map NV.q) (rs.map RV.q)) z with
      | none => rw [hc] at f9; exact absurd f9 (by decide)
      | some b => exact ⟨b,rfl⟩
    obtain ⟨rfl,rfl,rfl⟩ := j3 b hb
    obtain ⟨hev,hfa,hfb⟩ := hso2 b hb
    have j1' := k1.le hx2.le
    have j2' := k2.le hx2.le
    refine cK (tC (cR ?_));refine oA isAgg48 sizeOf48 ?_;refine oS sizeOf48 ?_;refine nS ?_;refine oF 0 underlying67 sizeOf3 ?_;refine oL isAgg3 ?_;refine oF 3 underlying67 sizeOf3 ?_;refine oL isAgg3 ?_;refine vg trivial rfl (qch) rfl (.cons rfl rfl rfl (by repeat constructor) (.cons rfl rfl rfl (by repeat constructor) .nil)) ?_;iterate 2 refine oA isAgg48 sizeOf48 ?_
    refine oI call44 rfl (by exact qo4 o.c.kind 0 0 o.c.e false N0 N0 _ _ _ _ [] [] a b (Ws.nil _) (Ws.nil _) j1' j2' j1 j2 hfa hfb (fun h7 => by omega) (Nat.zero_le _) (Nat.zero_le _)) ?_;rintro _ I3 hx3 ⟨s3,x3,y3,X3,Y3,rfl,m1,m2,m3⟩;iterate 2 refine oV ?_
    refine oS sizeOf48 ?_;refine oV ?_;refine nE ?_;refine retR rfl (.agg isAgg48 sizeOf48 rfl (by repeat constructor) rfl (.tmp rfl .nil)) ?_;refine fun w' hw' => ⟨I3,[rtR u rs],hw'.sort (by repeat constructor),hx1.trans (hx2.trans hx3 (Nat.le_refl _)) (Nat.le_refl _),rfl,?_⟩
    rw [hev]; exact ⟨s3,x3,y3,X3,Y3,rfl,m1,m2,m3⟩
   have f8 := h8;try simp only [bl] at f8
   obtain ⟨hev,hfa,hpw⟩ := huna (by omega)
   refine kS ?_;refine oF 0 underlying67 sizeOf3 ?_;refine oL isAgg3 ?_;refine oF 3 underlying67 sizeOf3 ?_;refine oL isAgg3 ?_;refine vg trivial rfl (qch) rfl (.cons rfl rfl rfl (by repeat constructor) (.cons rfl rfl rfl (by repeat constructor) .nil)) ?_;iterate 2 refine oA isAgg48 sizeOf48 ?_
   refine oI call44 rfl (by exact qo4 o.c.kind 0 0 o.c.e false N0 N0 _ _ _ _ [] [] a a (Ws.nil _) (Ws.nil _) k1 k2 k1 k2 hfa hfa hpw (Nat.zero_le _) (Nat.zero_le _)) ?_;rintro _ I3 hx3 ⟨s3,x3,y3,X3,Y3,rfl,m1,m2,m3⟩;iterate 2 refine oV ?_
   refine oS sizeOf48 ?_;refine oV ?_;refine nE ?_;refine retR rfl (.agg isAgg48 sizeOf48 rfl (by repeat constructor) rfl (.tmp rfl .nil)) ?_;refine fun w' hw' => ⟨I3,[rtR u rs],hw'.sort (by repeat constructor),hx1.trans hx3 (Nat.le_refl _),rfl,?_⟩
   rw [hev]; exact ⟨s3,x3,y3,X3,Y3,rfl,m1,m2,m3⟩
theorem qs0 {p : qx} {xs : List Rat} : kvD p xs [] = p.ins.zip xs := by unfold kvD; simp
theorem q19 (vi vl vo va vx : Value) (p : qx) (ns : List qk) (xs : List NV) (l : List (ByteArray × Ex)) (hf : ∀ o ∈ ns, o.c.few 3000) (hxl : xs.length = p.ins.length) (hxs : ∀ x ∈ xs, x.n.length ≤ 3000 ∧ x.d.length ≤ 3000) (hr : zm p l) {I : Hp} (hp : y5 I vi vl vo va p ns) (hpt : PtV I vx xs) (hd : qa8 (p.ins.zip (xs.map NV.q)) l) :
   Fun prog 10 [.agg #[vi,vl,vo,va],vx] I [] (fun v I' _ => exR (denX (denE (p.ins.zip (xs.map NV.q)) l)) v I') := by
 have hsi := hp.si
 have hsl := hp.sl
 have hso := hp.so
 have hsa := hp.sa
 have hll : (p.lets.map LetC.cells).length = p.lets.length := List.length_map _
 have hpl : p.lets.length = l.length := by rw [hr.lets,qb4]
 obtain ⟨g1,g2⟩ := hr.few
 have g3 := hr.ins.2.2
 have hln : ns.length = p.all.length := by rw [← hp.eq,List.length_map]
 have hlf : l.length ≤ 40 := g1
 intro w hw
 refine qv _ func10 rfl ntmps10 rfl ?_ hw;refine sR ?_;refine qo trivial rfl rfl rfl (fun b2 => ?_);iterate 2 refine oV ?_
 refine nS ?_;refine oV ?_;refine nU ?_;refine oV ?_;refine oN (tC (cB ?_));refine qu (ι := Nat × List RV × Value × Hp) [1,2] (.cons rfl (.cons rfl .nil)) (fun x => p.lets.length - x.1) (fun x E0 => (6,x.2.2.1) :: (7,.int .i64 (x.1 : Nat)) :: E0) (fun x => St w [] x.2.2.2 [rtR x.2.2.1 x.2.1,.box b2 (.cells #[vi,vl,vo,va] 29 (0,0))]) (fun x => x.1 ≤ p.lets.length ∧ x.2.1.length = x.1 ∧ (∀ r ∈ x.2.1,r.ok x.2.2.2) ∧ denE (p.ins.zip (xs.map NV.q)) l = denM (kvD p (xs.map NV.q) (x.2.1.map RV.q)) (l.drop x.1) (x.2.1.map RV.q) ∧ qa8 (kvD p (xs.map NV.q) (x.2.1.map RV.q)) (l.drop x.1) ∧ Ext w.heap.size I x.2.2.2) ((0,[],.slice none 0 0,I)) (sC rfl (sC rfl (sC rfl (sC rfl sN)))) (fun _ h => h.nilRow 48 3) (⟨Nat.zero_le _,rfl,fun r hr => (by cases hr),by (show _ = denM (kvD p _ []) l []; rw [qs0]; unfold denM; cases denE (p.ins.zip (xs.map NV.q)) l <;> rfl),by (show qa8 (kvD p _ []) l; rw [qs0]; exact hd),Ext.refl _ _⟩) ?_;rintro ⟨i,rs,u,I1⟩ ⟨hi,hrl,hrs,hE,hD,hx1⟩
 try dsimp only
 simp only at hi hrl hrs hE hD hx1
 refine cS (sR ?_);refine oV ?_;refine oF 1 underlying29 sizeOf26 ?_;refine oL isAgg26 ?_;refine qw trivial rfl underlying26 rfl (hsl.le hx1.le) ?_;refine oV ?_;refine nT ?_;refine cC rfl (fun h1 => ?_) (fun h1 => ?_)
 ·
  have f1 := h1;try simp only [bl] at f1
  obtain ⟨c,hc⟩ : ∃ c,p.lets[i]? = some c := ⟨p.lets[i]'(by omega),List.getElem?_eq_getElem (by omega)⟩
  obtain ⟨x,hlx,hx2,_⟩ := hr.root hc
  rw [← hp.eq] at hx2
  obtain ⟨hkx,hD2⟩ := q14 hlx hD
  refine cK (tC (cS (cB (cS ?_))));refine yb (m := 16) [.box b2 _] (by repeat constructor) (by kernel_rfl) rfl ?_;refine qT (i := 0) (qB 16 1) (Hp.Le.refl _) rfl rfl (oA isAgg29 sizeOf29 qF) ?_;refine qT (i := 1) (qB 16 3) (Hp.Le.refl _) rfl rfl (oF 1 underlying29 sizeOf26 qF) ?_;refine qT (i := 2) (qB 16 7) (Hp.Le.refl _) rfl rfl (oL isAgg26 qF) ?_;refine qT (i := 3) (qB 16 15) (Hp.Le.refl _) rfl rfl (oV qF) ?_;refine qT (i := 4) (qB 16 31) (Hp.Le.refl _) rfl rfl (vk trivial rfl underlying26 sizeOf72 rfl (hsl.le hx1.le) rfl (by omega) qF) ?_;refine qT (i := 5) (qB 16 63) (Hp.Le.refl _) rfl rfl (oF 1 underlying72 sizeOf3 qF) ?_;refine qT (i := 6) (qB 16 127) (Hp.Le.refl _) rfl rfl (q8 trivial rfl isAgg3 rfl (qbq (hsl.le hx1.le) hc 1 _ rfl) qF) ?_;refine qT (i := 7) (qB 16 255) (Hp.Le.refl _) rfl rfl (oV qF) ?_;refine qT (i := 8) (qB 16 511) (Hp.Le.refl _) rfl rfl (oV qF) ?_;refine h_go [9,13] (by kernel_rfl) rfl (TWHs.cons ?_ (TWHs.cons ?_ TWHs.nil))
  ·
   refine qP (qB 16 1023) rfl ?_;refine oC trivial rfl call29 rfl (qlu vi vl vo va vx u p ns xs rs hf hxl hxs (by omega) ⟨by omega,by omega,by omega⟩ x.n x (Nat.le_refl _) I1 (hp.le hx1.le) (hpt.le hx1.le) hrs c.root hx2 hkx) (by repeat constructor) ?_;rintro _ I2 _ hx3 ⟨rfl,s1,x1,y1,X1,Y1,rfl,k1,k2,k3⟩;refine qM (hx3.le) ?_;refine qT (i := 10) (qB 16 2047) (hx3.le) rfl rfl (oV qF) ?_;refine qT (i := 11) (qB 16 4095) (hx3.le) rfl rfl (oV qF) ?_;refine qT (i := 12) (qB 16 8191) (hx3.le) rfl rfl (oV qF) ?_;refine qO (i := 13) (qB 16 16383) rfl ?_;refine qh trivial rfl zeroValue48 rfl (fun b8 => ?_);refine qM (hx3.le) ?_;refine qO (i := 14) (qB 16 32767) rfl ?_;refine oS sizeOf48 ?_;refine qM (hx3.le) ?_;refine qT (i := 15) (qB 16 65535) (hx3.le) rfl rfl (oV qF) ?_;refine qn (by kernel_rfl) ?_;refine tC (cS (sR ?_));iterate 2 refine oV ?_
   refine nT ?_;refine cC rfl (fun h2 => ?_) (fun h2 => ?_)
   ·
    have f2 := h2;try simp only [bl] at f2
    have hno : evE (kvD p (xs.map NV.q) (rs.map RV.q)) x = none := by
      cases hc : evE (kvD p (xs.map NV.q) (rs.map RV.q)) x with
      | none => rfl
      | some a => rw [hc] at f2; exact absurd rfl f2
    refine sR ?_;iterate 3 refine oV ?_
    refine oN (tC (cT (tR (qd (tR (tR (qd (tR ?_))))))));refine ret2 rfl rfl rfl ?_;refine leaf (hx1.trans hx3 (Nat.le_refl _)) (List.nil_sublist _) ?_
    rw [hE,qsy hlx hno,hno]; exact qeh 3
   have f2 := h2;try simp only [bl] at f2
   obtain ⟨a,ha⟩ : ∃ a,evE (kvD p (xs.map NV.q) (rs.map RV.q)) x = some a := by
     cases hc : evE (kvD p (xs.map NV.q) (rs.map RV.q)) x with
     | none => rw [hc] at f2; exact absurd f2 (by decide)
     | some a => exact ⟨a,rfl⟩
   obtain ⟨rfl,rfl,rfl⟩ := k3 a ha
   have hkv : kvD p (xs.map NV.q) ((rs ++ [(⟨a,x1,y1⟩ : RV)]).map RV.q) = kvD p (xs.map NV.q) (rs.map RV.q) ++ [(c.name,a)] := by
     rw [List.map_append]
     exact qsu (by rw [List.length_map,hrl]; exact hc)
   refine cK (tC (cR ?_));refine oV ?_;refine oA isAgg48 sizeOf48 ?_;refine oB underlying39 sizeOf48 zeroValue48 fun b35 => ?_;refine jb trivial rfl underlying39 (jy) (by decide) rfl rfl (fun v' => (by repeat constructor)) (by repeat constructor) rfl (by exact jz k1 k2) (by (unfold maxLen; omega)) (by omega) (fun v36 => ?_);refine oV ?_;refine oN (qe (tC (cR ?_)));refine oV ?_
   (refine qf trivial rfl rfl rfl ?_ ?_; (omega))
   refine oV ?_;refine oN ?_
   exact qj (i + 1, rs ++ [(⟨a, x1, y1⟩ : RV)], v36, I2) (sC rfl (sC rfl (sC rfl (sC rfl sN)))) (fun _ h => by unfold rtR; rw [← j8, List.length_append]; exact h.sort (by repeat constructor)) (by show p.lets.length - (i + 1) < p.lets.length - i; omega) ⟨by show i + 1 ≤ _; omega, by show (rs ++ [_]).length = _; rw [List.length_append, hrl]; rfl, fun r hr => by
     rcases List.mem_append.1 hr with hr | hr
     · exact (hrs r hr).le hx3.le
     · rw [List.mem_singleton.1 hr]; exact ⟨k1,k2⟩,by
     show _ = denM (kvD p _ ((rs ++ [(⟨a,x1,y1⟩ : RV)]).map RV.q)) (l.drop (i + 1)) ((rs ++ [(⟨a,x1,y1⟩ : RV)]).map RV.q)
     rw [hkv,hE,qsx hlx ha,List.map_append]; rfl,by
     show qa8 (kvD p _ ((rs ++ [(⟨a,x1,y1⟩ : RV)]).map RV.q)) (l.drop (i + 1))
     rw [hkv]; exact hD2 a ha,hx1.trans hx3 (Nat.le_refl _)⟩
  refine qP (qB 16 8703) rfl ?_;refine qh trivial rfl zeroValue48 rfl (fun b8 => ?_);refine qM (Hp.Le.refl _) ?_;refine qO (i := 9) (qB 16 9215) rfl ?_;refine oC trivial rfl call29 rfl (qlu vi vl vo va vx u p ns xs rs hf hxl hxs (by omega) ⟨by omega,by omega,by omega⟩ x.n x (Nat.le_refl _) I1 (hp.le hx1.le) (hpt.le hx1.le) hrs c.root hx2 hkx) (by repeat constructor) ?_;rintro _ I2 _ hx3 ⟨rfl,s1,x1,y1,X1,Y1,rfl,k1,k2,k3⟩;refine qM (hx3.le) ?_;refine qT (i := 10) (qB 16 10239) (hx3.le) rfl rfl (oV qF) ?_;refine qT (i := 11) (qB 16 12287) (hx3.le) rfl rfl (oV qF) ?_;refine qT (i := 12) (qB 16 16383) (hx3.le) rfl rfl (oV qF) ?_;refine qO (i := 14) (qB 16 32767) rfl ?_;refine oS sizeOf48 ?_;refine qM (hx3.le) ?_;refine qT (i := 15) (qB 16 65535) (hx3.le) rfl rfl (oV qF) ?_;refine qn (by kernel_rfl) ?_;refine tC (cS (sR ?_));iterate 2 refine oV ?_
  refine nT ?_;refine cC rfl (fun h2 => ?_) (fun h2 => ?_)
  ·
   have f2 := h2;try simp only [bl] at f2
   have hno : evE (kvD p (xs.map NV.q) (rs.map RV.q)) x = none := by
     cases hc : evE (kvD p (xs.map NV.q) (rs.map RV.q)) x with
     | none => rfl
     | some a => rw [hc] at f2; exact absurd rfl f2
   refine sR ?_;iterate 3 refine oV ?_
   refine oN (tC (cT (tR (qd (tR (tR (qd (tR ?_))))))));refine ret2 rfl rfl rfl ?_;refine leaf (hx1.trans hx3 (Nat.le_refl _)) (List.nil_sublist _) ?_
   rw [hE,qsy hlx hno,hno]; exact qeh 3
  have f2 := h2;try simp only [bl] at f2
  obtain ⟨a,ha⟩ : ∃ a,evE (kvD p (xs.map NV.q) (rs.map RV.q)) x = some a := by
    cases hc : evE (kvD p (xs.map NV.q) (rs.map RV.q)) x with
    | none => rw [hc] at f2; exact absurd f2 (by decide)
    | some a => exact ⟨a,rfl⟩
  obtain ⟨rfl,rfl,rfl⟩ := k3 a ha
  have hkv : kvD p (xs.map NV.q) ((rs ++ [(⟨a,x1,y1⟩ : RV)]).map RV.q) = kvD p (xs.map NV.q) (rs.map RV.q) ++ [(c.name,a)] := by
    rw [List.map_append]
    exact qsu (by rw [List.length_map,hrl]; exact hc)
  refine cK (tC (cR ?_));refine oV ?_;refine oA isAgg48 sizeOf48 ?_;refine oB underlying39 sizeOf48 zeroValue48 fun b35 => ?_;refine jb trivial rfl underlying39 (jy) (by decide) rfl rfl (fun v' => (by repeat constructor)) (by repeat constructor) rfl (by exact jz k1 k2) (by (unfold maxLen; omega)) (by omega) (fun v36 => ?_);refine oV ?_;refine oN (qe (tC (cR ?_)));refine oV ?_
  (refine qf trivial rfl rfl rfl ?_ ?_; (omega))
  refine oV ?_;refine oN ?_
  exact qj (i + 1, rs ++ [(⟨a, x1, y1⟩ : RV)], v36, I2) (sC rfl (sC rfl (sC rfl (sC rfl sN)))) (fun _ h => by unfold rtR; rw [← j8, List.length_append]; exact h.sort (by repeat constructor)) (by show p.lets.length - (i + 1) < p.lets.length - i; omega) ⟨by show i + 1 ≤ _; omega, by show (rs ++ [_]).length = _; rw [List.length_append, hrl]; rfl, fun r hr => by
    rcases List.mem_append.1 hr with hr | hr
    · exact (hrs r hr).le hx3.le
    · rw [List.mem_singleton.1 hr]; exact ⟨k1,k2⟩,by
    show _ = denM (kvD p _ ((rs ++ [(⟨a,x1,y1⟩ : RV)]).map RV.q)) (l.drop (i + 1)) ((rs ++ [(⟨a,x1,y1⟩ : RV)]).map RV.q)
    rw [hkv,hE,qsx hlx ha,List.map_append]; rfl,by
    show qa8 (kvD p _ ((rs ++ [(⟨a,x1,y1⟩ : RV)]).map RV.q)) (l.drop (i + 1))
    rw [hkv]; exact hD2 a ha,hx1.trans hx3 (Nat.le_refl _)⟩
 have f1 := h1;try simp only [bl] at f1
 refine qq (qc (qc (qp rfl (tC (sR ?_)))));iterate 3 refine oV ?_
 refine nE ?_;refine ret2 rfl rfl rfl ?_
 rw [hE,List.drop_of_length_le (by omega),q15]
 exact qc7 hx1 (qao rs) (qef rs) (by unfold maxLen; omega) (fun I' hl hs => ⟨u,rfl,fun l' h' => (by cases h'; exact ⟨rs,hs,fun r hr => (hrs r hr).le hl,rfl⟩),fun h' => absurd rfl h'⟩)
end Go.Proofs.YtoincnplajnpnaaGreat
