/-
  Words on bytes and texts; append as a step of a region; windows.
-/
import Derived.Test.YtclgnginmgleaaaDoorChecked
import Derived.Test.YtclgnginmgleaaaDoorArr
import Derived.Outline
import Derived.LoopTactic
import Derived.Lib.SlBytesConst
import Derived.Deep.DeepMust
import Derived.Lib.QuietBelow
import Derived.BigQuiet
import Derived.RegionTactic
import Derived.Deep.RegionHeld3
import Derived.Deep.RegionHeldLaw
import Derived.Deep.QuietTactic
import Derived.Lib.SlBytesRow
import Derived.StillTailTactics
namespace Go.Proofs.YtclgnginmgleaaaDoor
open Go Go.RowKit Go.Sort

theorem under22 : Tryd.prog.underlying 26 = some (.slice 5) := by kernel_rfl
theorem under5 : Tryd.prog.underlying 5 = some (.int .u8) := by kernel_rfl
theorem conv_bytes (w : World) (C : Array Value) (n c : Nat) : (convert 26 26 (.slice (some ⟨w.heap.size, 0, none⟩) n c)).run Tryd.prog (w.alloc (.cells C 5)) = .ok (.slice (some ⟨w.heap.size, 0, none⟩) n c) (w.alloc (.cells C 5 (C.size, C.size + 1))) := Lib.run_convert_bytes_const (P := Tryd.prog) w 26 5 C n c under22 under5
/-- A text's row is read. -/
theorem lit_rd {w : World} {e : TypeId} {fr : Nat × Nat} (l : List UInt8) (n : Nat) (hl : l.length = n) (hn : 0 < n) (hm : n ≤ 100) :
    Rd (w.alloc (.cells (bvals l).toArray e fr)) 1 (.slice (some ⟨w.heap.size, 0, none⟩) n n) n (bvals l) := by
  have hb : (w.alloc (.cells (bvals l).toArray e fr)).heap[w.heap.size]? = some (.cells (bvals l).toArray e fr) := heap_alloc_new _ _
  refine ⟨by rw [bvals_length, hl, Nat.mul_one], .inr ⟨_, 0, n, rfl, hn, Nat.le_refl _, by unfold maxLen; omega, fun j u hj => ?_⟩⟩
  rw [Nat.zero_add, cell_of_row _ _ _ _ _ _ hb]; simpa using hj

theorem info5 : (Tryd.prog.info? 5).map (fun i => (i.zero, i.size, i.bytes)) = some (some (.int .u8 0), 1, 1) := by kernel_rfl

theorem Rd.srcB {w : World} {n : Nat} {v : Value} {l : List UInt8} (h : Rd w 1 v n (bvals l)) : Src Tryd.prog 1 26 v n (bvals l) w := by
  obtain ⟨hl, ⟨a, c, rfl, rfl⟩ | ⟨b, off, cap, rfl, hn, hle, hm, hc⟩⟩ := h
  · have : bvals l = [] := by simpa using hl
    rw [this]
    cases a with
    | none => exact Src.ofNil w under22 c
    | some a => exact Src.ofSlice w under22 a 0 c [] (by simp) (fun j u hj => by simp at hj) (fun u hu => by simp at hu)
  · refine Src.ofSlice w under22 ⟨b, off, none⟩ n cap _ hl (fun j u hj => ?_) (bvals_one l)
    rw [Addr.add_lit]; exact hc j u hj
theorem Rd.kept {w w' : World} {sz n : Nat} {v : Value} {xs : List Value} {S : Nat → Prop} (h : Rd w sz v n xs) (hb : Kept S w w') (hs : ∀ k, k < w.heap.size → ¬ S k) : Rd w' sz v n xs := h.below (hb.below hs)
theorem Rd.n {w : World} {n : Nat} {v : Value} {l : List UInt8} (h : Rd w 1 v n (bvals l)) : n = l.length := by have := h.1; rw [bvals_length, Nat.mul_one] at this; exact this.symm

theorem Sl.empty (w : World) (sz : Nat) (a : Option Addr) : Sl w sz (.slice a 0 0) none 0 [] := ⟨by simp, .inl ⟨a, rfl, rfl, rfl⟩⟩
theorem below_alloc' {w W : World} (h : Below w.heap.size w W) (o : Obj) : Below w.heap.size w (W.alloc o) := h.alloc h.size o
theorem Kept.toBelow {w W W' : World} {blk : Option Nat} (h : Below w.heap.size w W) (k : Kept (fun k => blk = some k) W W') (hb : ∀ b, blk = some b → w.heap.size ≤ b) : Below w.heap.size w W' :=
  h.trans (k.belowB h.size fun i hi e => by have := hb i e; omega)
theorem fresh_next {w : World} {n : Nat} {blk blk' : Option Nat} (h : ∀ b, blk = some b → n ≤ b) (hn : n ≤ w.heap.size) (hb : blk' = blk ∨ ∃ b, blk' = some b ∧ w.heap.size ≤ b) : ∀ b, blk' = some b → n ≤ b := by
  intro b hbb
  rcases hb with rfl | ⟨c, rfl, hc⟩
  · exact h b hbb
  · obtain rfl := Option.some.inj hbb; omega

theorem under9 : Tryd.prog.underlying 9 = some .string := by kernel_rfl

/-- A text of bytes. -/
def str (l : List UInt8) : ByteArray := ⟨l.toArray⟩
theorem str_inj {a b : List UInt8} : str a = str b ↔ a = b := by
  unfold str
  constructor
  · intro h; injection h with h; exact Array.toList_inj.2 h |> fun h => by simpa using h
  · intro h; rw [h]
theorem strOf_bytes (l : List UInt8) : strOfNums (l.map fun b => (b.toNat : Int)) = str l := by
  unfold strOfNums str
  simp [List.map_map, Function.comp_def]

/-- The text of a slice of bytes. -/
theorem conv_str {w : World} {v : Value} {n : Nat} {l : List UInt8} (h : Rd w 1 v n (bvals l)) : (convert 26 9 v).run Tryd.prog w = .ok (.string (str l)) w := by
  obtain ⟨hl, ⟨a, c, rfl, rfl⟩ | ⟨b, off, cap, rfl, hn, hle, hm, hc⟩⟩ := h
  · have : l = [] := by simpa [bvals] using hl
    subst this
    rcases a with _ | ⟨ab, ao, asp⟩
    · exact run_convert_bytes_nil w 26 5 under22 under5 0 c 9 under9
    · rw [run_convert_bytes_string (P := Tryd.prog) w 26 9 5 _ 0 c under22 under5 under9, run_bytesToString w _ 0 c [] rfl]
      · rfl
  · have := run_convert_bytes_arg (P := Tryd.prog) w 26 5 under22 under5 b off n cap (l.map fun b => (b.toNat : Int)) (by simpa [bvals] using hl) (fun i hi => by
      have hil : i < l.length := by rw [bvals_length] at hl; omega
      rw [hc i _ (bvals_get l i hil)]
      simp [List.getD_eq_getElem?_getD, hil]) 9 under9
    rw [this, strOf_bytes l]

/-- A literal's row is one's own. -/
theorem lit_sl {w : World} {e : TypeId} (l : List Value) (n : Nat) (hl : l.length = n) (hn : 0 < n) (hm : n ≤ 1000) :
    Sl (w.alloc (.cells l.toArray e)) 1 (.slice (some ⟨w.heap.size, 0, none⟩) n n) (some w.heap.size) n l := by
  have hb : (w.alloc (.cells l.toArray e)).heap[w.heap.size]? = some (.cells l.toArray e (0, 0)) := heap_alloc_new _ _
  refine ⟨by rw [hl, Nat.mul_one], .inr ⟨_, 0, n, rfl, rfl, hn, Nat.le_refl _, by unfold maxLen; omega, fun j u hj => ?_, fun j hj => ?_⟩⟩
  · rw [Nat.zero_add, cell_of_row _ _ _ _ _ _ hb]; simpa using hj
  · rw [Nat.zero_add, cell_of_row _ _ _ _ _ _ hb]
    exact ⟨by rw [List.getElem?_toArray, List.getElem?_eq_getElem (by omega)]; rfl, frozen_of_row _ _ _ _ _ hb⟩

theorem below_drew (w : World) : Below w.heap.size w w.drew := ⟨rfl, rfl, rfl, Nat.le_refl _, fun _ _ => rfl⟩
/-- A window of a slice that is read. -/
theorem Rd.win {w : World} {b off c : Nat} {l : List UInt8} (h : Rd w 1 (.slice (some ⟨b, off, none⟩) l.length c) l.length (bvals l)) (i m c' : Nat) (hm : i + m ≤ l.length) (hc : m ≤ c') (hc' : c' ≤ maxLen) :
    Rd w 1 (.slice (some ⟨b, off + i, none⟩) m c') m (bvals ((l.drop i).take m)) := by
  refine ⟨by simp [bvals]; omega, ?_⟩
  rcases Nat.eq_zero_or_pos m with h0 | h0
  · subst h0; exact .inl ⟨_, _, rfl, rfl⟩
  · obtain ⟨_, ⟨_, _, h1, _⟩ | ⟨b, off, cap, hv, _, h1, h2, hcell⟩⟩ := h
    · omega
    · simp only [Value.slice.injEq, Option.some.injEq, Addr.mk.injEq, true_and, and_true] at hv
      obtain ⟨⟨rfl, rfl⟩, rfl⟩ := hv
      refine .inr ⟨b, _, c', rfl, h0, hc, hc', fun j u hj => ?_⟩
      rw [Nat.add_assoc]
      apply hcell
      have e : bvals ((l.drop i).take m) = ((bvals l).drop i).take m := by simp [bvals, List.map_take, List.map_drop]
      rw [e] at hj
      have hjl := (List.getElem?_eq_some_iff.1 hj).1
      rw [List.length_take] at hjl
      rw [List.getElem?_take_of_lt (by omega), List.getElem?_drop] at hj
      exact hj

/-- append, as a step of a region. -/
theorem step_append_sl {P : Program} {w : World} {ops : Array Oper} {o : Oper} {a : Act} {K : Act → World → Prop} {Q : Exit → Act → World → Prop} {E : Prop} (hgd : o.guard = none) (s x : Operand) (t tx e : TypeId)
    (ho : o.op = .call { callee := .builtin .append, args := #[s, x], argTypes := #[t, tx] }) {z : Value} {sz bytes : Nat}
    (ht : P.underlying t = some (.slice e)) (hinfo : (P.info? e).map (fun i => (i.zero, i.size, i.bytes)) = some (some z, sz, bytes)) (hzs : z.cells.size = sz) (hpos : 0 < sz)
    {n m : Nat} {v xv : Value} {blk : Option Nat} {xs ys : List Value} (hv : a.eval s = v) (hx : a.eval x = xv) (h : Sl w sz v blk n xs) (hs : Src P sz tx xv m ys w) (hbig : (3 * (n + m) + 1024) * (bytes + 1) ≤ 281474976710656)
    (hK : ∀ v' w' blk', Sl w' sz v' blk' (n + m) (xs ++ ys) → (blk' = blk ∨ ∃ b, blk' = some b ∧ w.heap.size ≤ b) → Kept (fun k => blk = some k) w w' → K (a.put o.dst v') w') :
    if Region.wanted o (yielded ops a.tmps) = true then Oper.wp P o a w K Q else E := by
  have hw : Region.wanted o (yielded ops a.tmps) = true := by simp [Region.wanted, hgd]
  rw [if_pos hw]
  obtain ⟨i, hi, hz, hsz, hby⟩ : ∃ i, P.info? e = some i ∧ i.zero = some z ∧ i.size = sz ∧ i.bytes = bytes := by
    cases hi : P.info? e with
    | none => rw [hi] at hinfo; simp at hinfo
    | some i => rw [hi] at hinfo; simp at hinfo; exact ⟨i, rfl, hinfo.1, hinfo.2.1, hinfo.2.2⟩
  obtain ⟨v', w', blk', hrun, h1, h2, h3, _⟩ := run_append_sl (P := P) h t tx o.type e i z bytes ht hi hz hsz hby hzs hpos hs hbig
  unfold Oper.wp
  simp [execOp, ho, resolve, invoke, builtin, hv, hx, hrun, Result.andThen]
  exact hK v' w' blk' h1 h2 h3

theorem Sl.capped {w : World} {A : Option Addr} {n c : Nat} {blk : Option Nat} {xs : List Value} (h : Sl w 1 (.slice A n c) blk n xs) (hn : 0 < n) : Sl w 1 (.slice A n n) blk n xs := by
  obtain ⟨hl, ⟨_, _, h0, _⟩ | ⟨b, off, cap, hb, hv, h0, h1, h2, hc, ht⟩⟩ := h
  · omega
  · simp only [Value.slice.injEq, true_and] at hv
    obtain ⟨rfl, rfl⟩ := hv
    exact ⟨hl, .inr ⟨b, off, n, hb, rfl, hn, Nat.le_refl _, by omega, hc, fun j hj => ht j (by omega)⟩⟩

/-- An equation that 'contradiction' is not to open. -/
theorem tt {p : Prop} (h : p) : p ∧ True := ⟨h, trivial⟩

end Go.Proofs.YtclgnginmgleaaaDoor
