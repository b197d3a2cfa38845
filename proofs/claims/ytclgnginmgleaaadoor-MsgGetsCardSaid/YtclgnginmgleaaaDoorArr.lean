/-
  Laws for the walks: whole arrays that are laid, loaded, stored, indexed; bits of words.
-/
import Derived.Test.YtclgnginmgleaaaDoorWorld
import Derived.Laws.Rows
import Derived.Laws.BitsAllLaws
namespace Go.Proofs.YtclgnginmgleaaaDoor
open Go Go.RowKit

section
variable {P : Program} {ops : Array Oper} {Q : Exit → Act → World → Prop} {a : Act} {w : World} {rest : List Oper} {o : Oper}

/-- An operation whose run is known. -/
theorem wpList_run {v : Value} {w' : World} (hgd : o.guard = none) (hr : (execOp a.eval o).run P w = .ok (.value v) w') (h : wpList P ops Q rest (a.put o.dst v) w') : wpList P ops Q (o :: rest) a w :=
  wpList_plain hgd fun K hK => by unfold Oper.wp; rw [hr]; exact hK _ _ h
theorem wpList_run_skip {w' : World} (hgd : o.guard = none) (hr : (execOp a.eval o).run P w = .ok .skip w') (h : wpList P ops Q rest (a.put o.dst undef) w') : wpList P ops Q (o :: rest) a w :=
  wpList_plain hgd fun K hK => by unfold Oper.wp; rw [hr]; exact hK _ _ h

/-- A variable of whatever size is laid. -/
theorem wpList_alloc_any {T : TypeId} {z : Value} (hgd : o.guard = none) (ho : o.op = .alloc T) (hz : ∀ w : World, (zeroValue T).run P w = .ok z w)
    (h : wpList P ops Q rest (a.put o.dst (.pointer (some ⟨w.heap.size, 0, none⟩))) (w.alloc (.cells z.cells T))) : wpList P ops Q (o :: rest) a w := by
  refine wpList_run hgd ?_ h
  simp only [execOp, ho, Instr.alloc, newVar, newRow, newObj]
  simp [hz]
  rfl

/-- A whole array is stored into its variable. -/
theorem run_storeVar_row {T : TypeId} {g : Nat} {cs vs : Array Value} {t : TypeId} (w : World) (hg : w.heap[g]? = some (.cells cs t (0, 0))) (hs : ∀ w : World, (sizeOf T).run P w = .ok vs.size w) (hc : cs.size = vs.size) (h1 : ∀ u ∈ vs.toList, u.oneCell' = true) :
    ∃ w', (storeVar T ⟨g, 0, none⟩ (.agg vs)).run P w = .ok () w' ∧ w'.heap[g]? = some (.cells vs t (0, 0)) ∧ Kept (fun k => k = g) w w' ∧ w'.heap.size = w.heap.size := by
  refine ⟨w.setCells g 0 vs.toList, ?_, ?_, ?_, size_setCells _ _ _ _⟩
  · have hst := run_storeCells_cells (P := P) g 0 vs.toList 0 w (fun j hj => by
        rw [cell_of_row w g _ cs t (0, 0) hg, Array.getElem?_eq_getElem (by simp at hj; omega)]; rfl)
      (fun j hj => frozen_of_row w g _ cs t hg) h1
    simp only [Nat.add_zero] at hst
    simp [storeVar, Value.cells, hs, hst]
  · have key : ∀ (l : List Value) (o : Nat) (w : World) (cs : Array Value), w.heap[g]? = some (.cells cs t (0, 0)) → o + l.length ≤ cs.size → (w.setCells g o l).heap[g]? = some (.cells ((cs.toList.take o ++ l ++ cs.toList.drop (o + l.length)).toArray) t (0, 0)) := by
      intro l
      induction l with
      | nil => intro o w cs h _; simp [World.setCells, h]
      | cons v l ih =>
        intro o w cs h hl
        simp only [List.length_cons] at hl
        rw [World.setCells, ih (o + 1) _ (cs.setIfInBounds o v) (heap_setCell_same w g o cs t v h) (by simp; omega)]
        congr 2
        rw [Array.toList_setIfInBounds, List.take_set, List.drop_set_of_lt (by omega), List.length_cons]
        have e1 : (cs.toList.take (o + 1)).set o v = cs.toList.take o ++ [v] := by
          rw [List.take_succ_eq_append_getElem (by simp; omega), List.set_append_right _ _ (by simp; omega)]
          have : o - (List.take o cs.toList).length = 0 := by simp; omega
          rw [this]; rfl
        rw [e1]
        have e2 : o + 1 + l.length = o + (l.length + 1) := by omega
        rw [e2]; simp
    rw [key vs.toList 0 w cs hg (by simp; omega)]
    simp [hc, List.drop_of_length_le]
  · exact ⟨World.os_setCells _ _ _ _, tape_setCells _ _ _ _, World.output_setCells _ _ _ _, Nat.le_of_eq (size_setCells _ _ _ _).symm, fun k hk hn => World.heap_setCells_other w g _ _ hk hn⟩

theorem wpList_store_row {T : TypeId} {x y : Operand} {g : Nat} {cs vs : Array Value} {t : TypeId} (hgd : o.guard = none) (ho : o.op = .store T x y) (hx : a.eval x = .pointer (some ⟨g, 0, none⟩)) (hy : a.eval y = .agg vs)
    (hg : w.heap[g]? = some (.cells cs t (0, 0))) (hs : ∀ w : World, (sizeOf T).run P w = .ok vs.size w) (hc : cs.size = vs.size) (h1 : ∀ u ∈ vs.toList, u.oneCell' = true)
    (h : ∀ w', w'.heap[g]? = some (.cells vs t (0, 0)) → Kept (fun k => k = g) w w' → w'.heap.size = w.heap.size → wpList P ops Q rest (a.put o.dst undef) w') : wpList P ops Q (o :: rest) a w := by
  obtain ⟨w', hr, r1, r2, r3⟩ := run_storeVar_row (P := P) (T := T) w hg hs hc h1
  refine wpList_run_skip hgd ?_ (h w' r1 r2 r3)
  simp only [execOp, ho, hx, hy, Instr.storeAt, Instr.sureAddr]
  simp [hr]

/-- An element of an array that is a value. -/
theorem wpList_index_arr {T e : TypeId} {n : Nat} {x i : Operand} {vs : Array Value} {k : IntKind} {j : Int} {v : Value} (hgd : o.guard = none) (ho : o.op = .index T x i) (ht : P.underlying T = some (.array n e))
    (hx : a.eval x = .agg vs) (hi : a.eval i = .int k j) (hr : (Instr.index T (.agg vs) (.int k j)).run P w = .ok v w)
    (h : wpList P ops Q rest (a.put o.dst v) w) : wpList P ops Q (o :: rest) a w := by
  refine wpList_run hgd ?_ h
  simp only [execOp, ho, hx, hi]
  simp [hr]
end

/-! ### bits -/

theorem bv_xor32 (a b : BitVec 32) : bits .xor .u32 (a.toNat : Int) (b.toNat : Int) = ((a ^^^ b).toNat : Int) := by
  rw [u32_xor_nat _ _ a.isLt b.isLt, BitVec.toNat_xor]
theorem bv_and32 (a b : BitVec 32) : bits .and .u32 (a.toNat : Int) (b.toNat : Int) = ((a &&& b).toNat : Int) := by
  rw [u32_and_nat _ _ a.isLt b.isLt, BitVec.toNat_and]
theorem bv_xor8 (a b : BitVec 8) : bits .xor .u8 (a.toNat : Int) (b.toNat : Int) = ((a ^^^ b).toNat : Int) := by
  rw [u8_xor_nat _ _ a.isLt b.isLt, BitVec.toNat_xor]
theorem bv_not32 (a : BitVec 32) : bits .xor .u32 IntKind.u32.max (a.toNat : Int) = ((~~~ a).toNat : Int) := by
  have h := bv_xor32 (~~~ 0#32) a
  have e : ((~~~ 0#32 : BitVec 32).toNat : Int) = IntKind.u32.max := by decide
  rw [e] at h
  rw [h]
  congr 2
theorem bv_shr32 (a : BitVec 32) (k : Nat) : ((a.toNat : Int) / 2 ^ k) = ((a >>> k).toNat : Int) := by
  rw [BitVec.toNat_ushiftRight, Nat.shiftRight_eq_div_pow]; simp
theorem bv_low8 (a : BitVec 32) : IntKind.u8.wrap (a.toNat : Int) = ((a.setWidth 8).toNat : Int) := by
  rw [IntKind.wrap_u8', BitVec.toNat_setWidth]; omega
theorem bv_byte (x : UInt8) : (x.toNat : Int) = (x.toBitVec.toNat : Int) := rfl

end Go.Proofs.YtclgnginmgleaaaDoor
