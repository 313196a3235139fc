/-
  Slice literals; strings out of bytes. Nothing of the program stands here.
-/
import Derived.Test.YtmflkokhhknlaaaDoorOps
import Derived.Laws.BytesString
namespace Go.Tw
set_option linter.unusedVariables false
set_option linter.unusedSimpArgs false
set_option linter.unnecessarySimpa false
set_option maxHeartbeats 1000000
open Go Go.RowKit

/-- All parts of a slice literal, in order, and their cells. -/
inductive Dense (sz : Nat) : Nat → List (Nat × Value) → List Value → Prop
  | nil {k : Nat} : Dense sz k [] []
  | cons {k : Nat} {v : Value} {c cs : List Value} {ps : List (Nat × Value)} : v.cells = c.toArray → c.length = sz → Dense sz (k + 1) ps cs → Dense sz k ((k, v) :: ps) (c ++ cs)
theorem Dense.len {sz k : Nat} {ps : List (Nat × Value)} {cs : List Value} (h : Dense sz k ps cs) : cs.length = ps.length * sz := by
  induction h with
  | nil => simp
  | cons _ h1 _ ih => simp [h1, ih, Nat.add_mul, Nat.add_comm]
theorem Dense.fill {sz k : Nat} {ps : List (Nat × Value)} {cs : List Value} (h : Dense sz k ps cs) : ∀ (done zs : List Value), done.length = k * sz → zs.length = cs.length →
    Instr.fill (fun i => some (i * sz, sz)) (done ++ zs).toArray ps = some (done ++ cs).toArray := by
  induction h with
  | nil => intro done zs h1 h2; have : zs = [] := List.length_eq_zero_iff.1 (by simpa using h2); simp [Instr.fill, this]
  | @cons k v c cs ps hc hl hr ih =>
    intro done zs h1 h2
    have hz : zs.length = sz + cs.length := by rw [h2]; simp [hl]
    unfold Instr.fill
    simp only [hc]
    have hcond : ¬ (c.toArray.size ≠ sz ∨ k * sz + c.toArray.size > (done ++ zs).toArray.size) := by
      simp [hl, hz, h1] <;> omega
    have hb : (c.toArray.size != sz || decide (k * sz + c.toArray.size > (done ++ zs).toArray.size)) = false := by
      simp [hl, hz, h1] <;> omega
    have e : (c.toArray.zipIdx.foldl (fun cs (x : Value × Nat) => match x with | (c, j) => cs.setIfInBounds (k * sz + j) c) (done ++ zs).toArray) = ((done ++ c) ++ zs.drop sz).toArray := by
      have := foldl_wr c 0 (done ++ zs) (k * sz) (by simp [hz, hl, h1] <;> omega)
      simp only [Nat.add_zero] at this
      rw [← h1] at this ⊢
      rw [List.take_append_of_le_length (Nat.le_refl _), List.take_length, List.drop_append, List.drop_eq_nil_of_le (by omega), hl] at this
      simp only [List.nil_append] at this
      have e2 : done.length + sz - done.length = sz := by omega
      rw [e2] at this
      rw [← this]
      simp [← Array.foldl_toList]
    split
    · rename_i hh; exact absurd hh (by simpa using hcond)
    · erw [e]
      rw [ih (done ++ c) (zs.drop sz) (by simp [h1, hl, Nat.add_mul]) (by simp [hz])]
      simp

variable {P : Program} {Q : Exit → Act → World → Prop} {n : Nat} {D : List Deferred} {E : Env} {S S' : World → Prop} {ops : Array Oper} {rest : List Oper} {d : Nat} {op : Op} {ty : TypeId} {pos : String} {aft : Array Edge} {g : Option (Nat × Bool)} {v : Value} {w0 : World} {X : List Nat} {I : Hp} {B : List Item}
/-- A slice literal, every place written. -/
theorem o_buildSl {t e : TypeId} {len sz : Nat} {parts : List (Nat × Operand)} {ps : List (Nat × Value)} {z : Value} {cs : List Value} (hg : Wants ops E g) (hd : Nat.blt d n = true) (hu : P.underlying t = some (.slice e)) (hsz : ∀ w, (sizeOf e).run P w = .ok sz w) (hz : ∀ w, (zeroValue e).run P w = .ok z w) (hs : len * sz ≤ 2 ^ 24) (hpos : 0 < len * sz)
    (hp : evParts E parts = some ps) (hf : Dense sz 0 ps cs) (hl : ps.length = len)
    (k : ∀ b, TL false P ops Q rest n D ((d, .slice (some ⟨b, 0, none⟩) len len) :: E) (St w0 X I (.box b (.cells cs.toArray e (0, 0)) :: B))) : TL false P ops Q (⟨some d, .buildSlice t len parts.toArray, ty, pos, aft, g⟩ :: rest) n D E (St w0 X I B) :=
  o_opX (ι := Nat) (V := fun b => .slice (some ⟨b, 0, none⟩) len len) (SX := fun b => St w0 X I (.box b (.cells cs.toArray e (0, 0)) :: B)) (F := fun _ => True) hg hd
    (fun a w ha hw d pos aft g => ⟨w.alloc (.cells cs.toArray e (0, 0)), w.heap.size, by
      have ep : (parts.toArray.map fun (i, x) => (i, a.eval x)) = ps.toArray := by
        rw [List.map_toArray]
        exact congrArg _ (evParts_eq ha hp)
      have hfill := hf.fill [] ((List.range (len * sz)).map fun i => z.cells[i % z.cells.size]!) (by simp) (by simp [hf.len, hl])
      have hfill' : Instr.fill (fun i => some (i * sz, sz)) ((Array.range (len * sz)).map (z.cells[· % z.cells.size]!)) ps = some cs.toArray := by
        rw [List.nil_append, List.nil_append] at hfill
        rw [← hfill]
        congr 1
        apply Array.ext'
        simp
      have h1 : ¬ len * sz > 2 ^ 24 := by omega
      have h2 : ¬ len * sz = 0 := by omega
      simp only [execOp, ep, Instr.buildSlice, run_underlying hu, Sem.run_bind, hsz, Result.andThen_ok, Sem.run_ite, if_neg h1, if_neg h2, hz, Sem.run_pure, hfill', newRow, run_newObj]
      rfl,
      hw.new (But.alloc w _) (heap_alloc_new w _) (fun b hb => by cases hb; exact Nat.le_refl _), trivial⟩) (fun b _ => k b)
/-- A text out of numbers. -/
def strOf (ns : List Int) : ByteArray := ⟨(ns.map fun n => UInt8.ofNat n.toNat).toArray⟩
theorem strOf_fold (ns : List Int) : ∀ (r : ByteArray), ns.foldl (fun r n => r.push (UInt8.ofNat n.toNat)) r = ⟨(r.data.toList ++ ns.map fun n => UInt8.ofNat n.toNat).toArray⟩ := by
  induction ns with
  | nil => intro r; simp
  | cons n ns ih => intro r; rw [List.foldl_cons, ih]; simp [ByteArray.push]
theorem strOf_eq (ns : List Int) : ns.foldl (fun r n => r.push (UInt8.ofNat n.toNat)) ByteArray.empty = strOf ns := by rw [strOf_fold]; rfl
theorem strOf_size (ns : List Int) : (strOf ns).size = ns.length := by simp [strOf, ByteArray.size]
theorem lit_size (a : Array UInt8) : (ByteArray.mk a).size = a.size := rfl
/-- string(b), b a whole box of bytes -/
theorem o_bytesStr {qm : Bool} {x : Operand} {t t2 e : TypeId} {b l c : Nat} {ns : List Int} {T : TypeId} {fz : Nat × Nat} (hg : Wants ops E g) (hd : Nat.blt d n = true) (hs : P.underlying t = some (.slice e)) (he : P.underlying e = some (.int .u8)) (hd2 : P.underlying t2 = some .string) (hx : ev E x = some (.slice (some ⟨b, 0, none⟩) l c))
    (hB : Item.box b (.cells (ns.map (Value.int .u8)).toArray T fz) ∈ B) (hl : ns.length = l)
    (k : TL qm P ops Q rest n D ((d, .string (strOf ns)) :: E) (St w0 X I B)) : TL qm P ops Q (⟨some d, .convert t t2 x, ty, pos, aft, g⟩ :: rest) n D E (St w0 X I B) :=
  o_rd hg hd (v := .string (strOf ns)) (fun a w ha hw d pos aft g => ⟨w, by
    have hb : w.heap[b]? = some (.cells (ns.map (Value.int .u8)).toArray T fz) := hw.own _ hB
    have hld := run_loadCells_cs (P := P) w b 0 (ns.map (Value.int .u8)) T fz l hb (by simp [hl])
    have hstr := run_bytesToString (P := P) w ⟨b, 0, none⟩ l c ns (by rw [hld, ← hl]; simp [List.take_of_length_le])
    simp only [execOp, ha.ev hx, Sem.run_bind, run_convert_bytes_string w t t2 e _ _ _ hs he hd2, hstr, Result.andThen_ok, strOf_eq]
    rfl, rfl⟩) k
end Go.Tw
