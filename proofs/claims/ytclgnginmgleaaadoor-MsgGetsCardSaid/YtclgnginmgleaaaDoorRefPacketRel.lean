/-
  The walk of the reference's Packet, 21 bytes long.
-/
import Derived.Test.YtclgnginmgleaaaDoorRefPacket
import Derived.StillTailTactics
namespace Go.Proofs.YtclgnginmgleaaaDoor
open Go Go.RowKit Go.Sort

def accN (y : Nat → Nat) (i : Nat) : Nat → Int
  | 0 => 0
  | k + 1 => accN y i k * 256 + (y (9 + 4 * i + k) : Int)
def nAt (y : Nat → Nat) (i k j : Nat) : Int := if j < i then accN y j 4 else if j = i then accN y i k else 0
def ns (y : Nat → Nat) (i k : Nat) : Array Value := #[.int .i64 (nAt y i k 0), .int .i64 (nAt y i k 1), .int .i64 (nAt y i k 2)]
theorem accN_range (y : Nat → Nat) (h : ∀ k, y k < 256) (i : Nat) : ∀ k, 0 ≤ accN y i k ∧ accN y i k < 256 ^ k
  | 0 => by simp [accN]
  | k + 1 => by
    have := accN_range y h i k
    have := h (9 + 4 * i + k)
    simp only [accN]
    rw [Int.pow_succ]
    omega
theorem accN_wrap (y : Nat → Nat) (h : ∀ k, y k < 256) (i k : Nat) (hk : k < 4) : IntKind.i64.wrap (accN y i k * 256) = accN y i k * 256 ∧ IntKind.i64.wrap (accN y i k * 256 + (y (9 + 4 * i + k) : Int)) = accN y i k * 256 + (y (9 + 4 * i + k) : Int) := by
  have hr := accN_range y h i k
  have := h (9 + 4 * i + k)
  have : (256 : Int) ^ k ≤ 16777216 := by rcases (show k = 0 ∨ k = 1 ∨ k = 2 ∨ k = 3 by omega) with rfl | rfl | rfl | rfl <;> decide
  exact ⟨IntWalk.i64_in _ (by omega), IntWalk.i64_in _ (by omega)⟩
theorem ns_get (y : Nat → Nat) (i k : Nat) (hi : i < 3) : (ns y i k)[i]? = some (.int .i64 (accN y i k)) := by
  rcases (show i = 0 ∨ i = 1 ∨ i = 2 by omega) with rfl | rfl | rfl <;> simp [ns, nAt]
theorem ns_set (y : Nat → Nat) (i k : Nat) (hi : i < 3) : (ns y i k).setIfInBounds i (.int .i64 (accN y i k * 256 + (y (9 + 4 * i + k) : Int))) = ns y i (k + 1) := by
  rcases (show i = 0 ∨ i = 1 ∨ i = 2 by omega) with rfl | rfl | rfl <;> simp [ns, nAt, accN]
theorem ns_next (y : Nat → Nat) (i : Nat) (hi : i < 3) : ns y i 4 = ns y (i + 1) 0 := by
  rcases (show i = 0 ∨ i = 1 ∨ i = 2 by omega) with rfl | rfl | rfl <;> simp [ns, nAt, accN]

def LongRel (y : Nat → Nat) (R P : Array Value) (w : World) (i k : Nat) (wr : World) : Prop :=
  wr.heap[w.heap.size + 2]? = some (.cells (ns y i k) 39 (0, 0)) ∧ wr.heap[w.heap.size + 1]? = some (.cells P 25 (0, 0)) ∧ wr.heap[w.heap.size]? = some (.cells R 25 (0, 0)) ∧ Below w.heap.size w wr

theorem long_step (y : Nat → Nat) (hy : ∀ k, y k < 256) (b off : Nat) (w wq : World) (R P : Array Value) (i k : Nat) (hi : i < 3) (hk : k < 4) (hrel : LongRel y R P w i k wq) (hcel : ∀ W, Below w.heap.size w W → ∀ k, k < 21 → W.cell? ⟨b, off + k, none⟩ = some (.int .u8 (y k : Int))) (hbl : b < w.heap.size) :
    ∃ (A : Int) (B : Nat), b < wq.heap.size ∧ wq.cell? ⟨w.heap.size + 2, i, none⟩ = some (.int .i64 A) ∧ wq.frozen? ⟨w.heap.size + 2, i, none⟩ = false ∧ w.heap.size + 2 < wq.heap.size ∧ wq.cell? ⟨b, off + (9 + 4 * i + k), none⟩ = some (.int .u8 (B : Int)) ∧
      (IntKind.i64.wrap (B : Int) = (B : Int) ∧ True) ∧ (IntKind.i64.wrap (A * 256) = A * 256 ∧ True) ∧ (IntKind.i64.wrap (A * 256 + (B : Int)) = A * 256 + (B : Int) ∧ True) ∧ LongRel y R P w i (k + 1) (wq.setCell ⟨w.heap.size + 2, i, none⟩ (.int .i64 (A * 256 + (B : Int)))) := by
  obtain ⟨h2, h1, h0, hb⟩ := hrel
  have hw := accN_wrap y hy i k hk
  refine ⟨accN y i k, y (9 + 4 * i + k), Nat.lt_of_lt_of_le hbl hb.size, ?_, frozen_of_row wq _ _ _ _ h2, (Array.getElem?_eq_some_iff.1 h2).1, hcel _ hb _ (by omega), wrapB _ (hy _), ⟨hw.1, trivial⟩, ⟨hw.2, trivial⟩, ?_, ?_, ?_, hb.setCell (by simp) _⟩
  · rw [cell_of_row wq _ _ _ _ _ h2]
    exact ns_get y i k hi
  · rw [heap_setCell_same wq _ i _ _ _ h2, ns_set y i k hi]
  · rw [heap_setCell_other wq _ _ _ (by simp)]; exact h1
  · rw [heap_setCell_other wq _ _ _ (by simp)]; exact h0

theorem LongRel.drew {y : Nat → Nat} {R P : Array Value} {w wr : World} {i k : Nat} (h : LongRel y R P w i k wr) : LongRel y R P w i k wr.drew := ⟨h.1, h.2.1, h.2.2.1, below_drew' h.2.2.2⟩
theorem LongRel.next {y : Nat → Nat} {R P : Array Value} {w wr : World} {i : Nat} (h : LongRel y R P w i 4 wr) (hi : i < 3) : LongRel y R P w (i + 1) 0 wr := by
  refine ⟨?_, h.2.1, h.2.2.1, h.2.2.2⟩
  rw [← ns_next y i hi]
  exact h.1
theorem long_end (y : Nat → Nat) (w wr : World) (R : Array Value) (P : Array Value) (h : LongRel y R P w 3 0 wr) (b : Nat) (hbl : b < w.heap.size) :
    wr.cell? ⟨w.heap.size + 2, 0, none⟩ = some (.int .i64 (accN y 0 4)) ∧ wr.cell? ⟨w.heap.size + 2, 1, none⟩ = some (.int .i64 (accN y 1 4)) ∧ wr.cell? ⟨w.heap.size + 2, 2, none⟩ = some (.int .i64 (accN y 2 4)) ∧ w.heap.size + 2 < wr.heap.size ∧ b < wr.heap.size ∧ w.heap.size + 1 < wr.heap.size ∧
    (∀ k, wr.cell? ⟨w.heap.size + 1, k, none⟩ = P[k]?) ∧ (∀ k, wr.frozen? ⟨w.heap.size + 1, k, none⟩ = false) := by
  have z := (Array.getElem?_eq_some_iff.1 h.1).1
  refine ⟨?_, ?_, ?_, z, Nat.lt_of_lt_of_le hbl h.2.2.2.size, by omega, fun k => cell_of_row wr _ _ _ _ _ h.2.1, fun k => frozen_of_row wr _ _ _ _ h.2.1⟩ <;> rw [cell_of_row wr _ _ _ _ _ h.1] <;> rfl

/-- What a packet of 21 bytes is answered. -/
def longQ (y : Nat → Nat) : M.Packet := ⟨(y 1 : Int), (y 2 : Int) * 256 + (y 3 : Int), (y 4 : Int) * 256 + (y 5 : Int), (y 6 : Int) * 256 + (y 7 : Int), true, ⟨(y 8 : Int), accN y 0 4, accN y 1 4, accN y 2 4⟩⟩

/-- Behind the store of the message into the box of the packet. -/
theorem long_store (y : Nat → Nat) (R : Array Value) (w wr : World) (h : LongRel y R #[.int .i64 (y 1 : Int), .int .i64 ((y 2 : Int) * 256 + (y 3 : Int)), .int .i64 ((y 4 : Int) * 256 + (y 5 : Int)), .int .i64 ((y 6 : Int) * 256 + (y 7 : Int)), .bool true, .int .i64 0, .int .i64 0, .int .i64 0, .int .i64 0] w 3 0 wr) (X : World) (hX : X = ((((wr.setCell ⟨w.heap.size + 1, 5, none⟩ (.int .i64 (y 8 : Int))).setCell ⟨w.heap.size + 1, 6, none⟩ (.int .i64 (accN y 0 4))).setCell ⟨w.heap.size + 1, 7, none⟩ (.int .i64 (accN y 1 4))).setCell ⟨w.heap.size + 1, 8, none⟩ (.int .i64 (accN y 2 4))).drew) :
    X.heap[w.heap.size + 1]? = some (.cells (packetV (longQ y)) 25 (0, 0)) ∧ X.heap[w.heap.size]? = some (.cells R 25 (0, 0)) ∧ Below w.heap.size w X := by
  subst hX
  have s1 := heap_setCell_same wr (w.heap.size + 1) 5 _ _ (.int .i64 (y 8 : Int)) h.2.1
  have s2 := heap_setCell_same _ (w.heap.size + 1) 6 _ _ (.int .i64 (accN y 0 4)) s1
  have s3 := heap_setCell_same _ (w.heap.size + 1) 7 _ _ (.int .i64 (accN y 1 4)) s2
  have s4 := heap_setCell_same _ (w.heap.size + 1) 8 _ _ (.int .i64 (accN y 2 4)) s3
  refine ⟨s4, ?_, below_drew' ((((h.2.2.2.setCell (by simp) _).setCell (by simp) _).setCell (by simp) _).setCell (by simp) _)⟩
  show (((((wr.setCell _ _).setCell _ _).setCell _ _).setCell _ _).heap)[w.heap.size]? = _
  rw [heap_setCell_other _ _ _ _ (by simp), heap_setCell_other _ _ _ _ (by simp), heap_setCell_other _ _ _ _ (by simp), heap_setCell_other _ _ _ _ (by simp)]
  exact h.2.2.1
theorem long_after {w w5 W : World} {A B : Array Value} {T : TypeId} (h : w5.heap[w.heap.size + 1]? = some (.cells A T (0, 0)) ∧ w5.heap[w.heap.size]? = some (.cells B T (0, 0)) ∧ Below w.heap.size w w5) (hW : Below w5.heap.size w5 W) :
    W.heap[w.heap.size + 1]? = some (.cells A T (0, 0)) ∧ W.heap[w.heap.size]? = some (.cells B T (0, 0)) ∧ Below w.heap.size w W := by
  have z := (Array.getElem?_eq_some_iff.1 h.1).1
  exact ⟨(hW.block _ z).trans h.1, (hW.block _ (by omega)).trans h.2.1, h.2.2.trans (hW.mono h.2.2.size)⟩
end Go.Proofs.YtclgnginmgleaaaDoor
