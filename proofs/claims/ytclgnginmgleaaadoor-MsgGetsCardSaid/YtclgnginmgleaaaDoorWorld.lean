/-
  Words on worlds, for the walks: which blocks may have turned; what a slice holds; append, whichever way it goes.
-/
import Derived.WalkKit
import Derived.WalkLawsBesides
import Derived.Deep.Upon
import Derived.Deep.MidRow
import Derived.Deep.Draws
import Derived.Lib.Hide
import Derived.OwnWalk
namespace Go.Proofs.YtclgnginmgleaaaDoor
open Go Go.RowKit

/-- Of what was there only the blocks in S may have turned. -/
structure Kept (S : Nat → Prop) (w w' : World) : Prop where
  os : w'.os = w.os
  tape : w'.tape = w.tape
  output : w'.output = w.output
  size : w.heap.size ≤ w'.heap.size
  block : ∀ k, k < w.heap.size → ¬ S k → w'.heap[k]? = w.heap[k]?

theorem Kept.refl (S : Nat → Prop) (w : World) : Kept S w w := ⟨rfl, rfl, rfl, Nat.le_refl _, fun _ _ _ => rfl⟩
theorem Kept.mono {S T : Nat → Prop} {w w' : World} (h : Kept S w w') (hs : ∀ k, k < w.heap.size → S k → T k) : Kept T w w' :=
  ⟨h.os, h.tape, h.output, h.size, fun k hk hn => h.block k hk fun hk' => hn (hs k hk hk')⟩
theorem Kept.trans {S T : Nat → Prop} {a b c : World} (h : Kept S a b) (k : Kept T b c) (hs : ∀ i, i < a.heap.size → T i → S i) : Kept S a c :=
  ⟨k.os.trans h.os, k.tape.trans h.tape, k.output.trans h.output, Nat.le_trans h.size k.size,
    fun i hi hn => (k.block i (Nat.lt_of_lt_of_le hi h.size) fun ht => hn (hs i hi ht)).trans (h.block i hi hn)⟩
theorem Kept.of_below {S : Nat → Prop} {w w' : World} (h : Below w.heap.size w w') : Kept S w w' := ⟨h.os, h.tape, h.output, h.size, fun k hk _ => h.block k hk⟩
theorem Kept.below {S : Nat → Prop} {w w' : World} (h : Kept S w w') (hs : ∀ k, k < w.heap.size → ¬ S k) : Below w.heap.size w w' := ⟨h.os, h.tape, h.output, h.size, fun k hk => h.block k hk (hs k hk)⟩
theorem Kept.belowB {S : Nat → Prop} {w w' : World} {B : Nat} (h : Kept S w w') (hB : B ≤ w.heap.size) (hs : ∀ k, k < B → ¬ S k) : Below B w w' := ⟨h.os, h.tape, h.output, h.size, fun k hk => h.block k (Nat.lt_of_lt_of_le hk hB) (hs k hk)⟩
theorem Kept.andBelow {S : Nat → Prop} {a b c : World} (h : Kept S a b) (k : Below b.heap.size b c) : Kept S a c :=
  h.trans (T := fun _ => False) (Kept.of_below k) fun _ _ hf => hf.elim
theorem Kept.drew {S : Nat → Prop} {a w : World} (h : Kept S a w) : Kept S a w.drew := ⟨h.os, h.tape, h.output, h.size, h.block⟩
theorem Kept.drewN {S : Nat → Prop} {a w : World} (h : Kept S a w) (n : Nat) : Kept S a (w.drewN n) := ⟨h.os, h.tape, h.output, h.size, h.block⟩
theorem Kept.alloc {S : Nat → Prop} {a w : World} (h : Kept S a w) (o : Obj) : Kept S a (w.alloc o) :=
  ⟨h.os, h.tape, h.output, Nat.le_trans h.size (by simp), fun k hk hn => (Below.heap_alloc w o k (Nat.lt_of_lt_of_le hk h.size)).trans (h.block k hk hn)⟩
theorem Kept.setCell {S : Nat → Prop} {a w : World} (h : Kept S a w) {p : Addr} (hp : a.heap.size ≤ p.block ∨ S p.block) (u : Value) : Kept S a (w.setCell p u) :=
  ⟨h.os, h.tape, h.output, by simpa [World.setCell] using h.size, fun k hk hn => (Below.heap_setCell w p u k (by
    rintro rfl
    rcases hp with hp | hp
    · omega
    · exact hn hp)).trans (h.block k hk hn)⟩
theorem Kept.cell {S : Nat → Prop} {w w' : World} (h : Kept S w w') {p : Addr} (hp : p.block < w.heap.size) (hn : ¬ S p.block) : w'.cell? p = w.cell? p := World.cell?_of_block (w := w) (h.block p.block hp hn)
theorem Kept.frozen {S : Nat → Prop} {w w' : World} (h : Kept S w w') {p : Addr} (hp : p.block < w.heap.size) (hn : ¬ S p.block) : w'.frozen? p = w.frozen? p := World.frozen?_of_block (w := w) (h.block p.block hp hn)

theorem below_drewN' {B : Nat} {a w : World} (h : Below B a w) (n : Nat) : Below B a (w.drewN n) := ⟨h.os, h.tape, h.output, h.size, h.block⟩
theorem bcell {W w1 : World} (hb : Below W.heap.size W w1) : (∀ b o, b < W.heap.size → w1.cell? ⟨b, o, none⟩ = W.cell? ⟨b, o, none⟩) ∧ (∀ b o, b < W.heap.size → w1.frozen? ⟨b, o, none⟩ = W.frozen? ⟨b, o, none⟩) :=
  ⟨fun b o h => hb.cell (p := ⟨b, o, none⟩) h, fun b o h => hb.frozen (p := ⟨b, o, none⟩) h⟩
theorem cell_lt {w : World} {b o : Nat} {v : Value} (h : w.cell? ⟨b, o, none⟩ = some v) : b < w.heap.size := World.block_lt_of_cell? w ⟨b, o, none⟩ h

/-- A slice's value: n elements of sz cells each, which hold xs; the cells up to its capacity are there and may be written. blk: its block, if it has capacity. -/
def Sl (w : World) (sz : Nat) (v : Value) (blk : Option Nat) (n : Nat) (xs : List Value) : Prop :=
  xs.length = n * sz ∧ ((∃ a, blk = none ∧ n = 0 ∧ v = .slice a 0 0) ∨
    ∃ b off cap, blk = some b ∧ v = .slice (some ⟨b, off, none⟩) n cap ∧ 0 < cap ∧ n ≤ cap ∧ cap ≤ maxLen ∧
      (∀ j u, xs[j]? = some u → w.cell? ⟨b, off + j, none⟩ = some u) ∧
      ∀ j, j < cap * sz → (w.cell? ⟨b, off + j, none⟩).isSome = true ∧ w.frozen? ⟨b, off + j, none⟩ = false)

theorem Sl.nil (w : World) (sz : Nat) : Sl w sz (.slice none 0 0) none 0 [] := ⟨by simp, .inl ⟨none, rfl, rfl, rfl⟩⟩

theorem Sl.lt {w : World} {sz n b : Nat} {v : Value} {xs : List Value} (h : Sl w sz v (some b) n xs) (hs : 0 < sz) : b < w.heap.size := by
  obtain ⟨_, ⟨_, h, _⟩ | ⟨b', off, cap, hb, _, hc, _, _, _, ht⟩⟩ := h
  · cases h
  · obtain rfl := Option.some.inj hb
    obtain ⟨u, hu⟩ := Option.isSome_iff_exists.1 (ht 0 (Nat.mul_pos hc hs)).1
    exact cell_lt hu

theorem Sl.of_block {w w' : World} {sz n : Nat} {v : Value} {blk : Option Nat} {xs : List Value} (h : Sl w sz v blk n xs) (hb : ∀ b, blk = some b → w'.heap[b]? = w.heap[b]?) : Sl w' sz v blk n xs := by
  obtain ⟨hl, h | ⟨b, off, cap, rfl, hv, h0, h1, h2, hc, ht⟩⟩ := h
  · exact ⟨hl, .inl h⟩
  · have e := hb b rfl
    refine ⟨hl, .inr ⟨b, off, cap, rfl, hv, h0, h1, h2, fun j u hj => ?_, fun j hj => ?_⟩⟩
    · rw [World.cell?_of_block (w := w) (a := ⟨b, off + j, none⟩) e]; exact hc j u hj
    · rw [World.cell?_of_block (w := w) (a := ⟨b, off + j, none⟩) e, World.frozen?_of_block (w := w) (a := ⟨b, off + j, none⟩) e]; exact ht j hj

theorem Sl.kept {w w' : World} {sz n : Nat} {v : Value} {blk : Option Nat} {xs : List Value} {S : Nat → Prop} (h : Sl w sz v blk n xs) (hk : Kept S w w') (hs : 0 < sz) (hn : ∀ b, blk = some b → ¬ S b) : Sl w' sz v blk n xs :=
  h.of_block fun b hb => by subst hb; exact hk.block b (h.lt hs) (hn b rfl)
theorem Sl.below {w w' : World} {sz n : Nat} {v : Value} {blk : Option Nat} {xs : List Value} (h : Sl w sz v blk n xs) (hk : Below w.heap.size w w') (hs : 0 < sz) : Sl w' sz v blk n xs :=
  h.of_block fun b hb => by subst hb; exact hk.block b (h.lt hs)

/-- A slice's value that is only read: n elements of sz cells each, which hold xs. -/
def Rd (w : World) (sz : Nat) (v : Value) (n : Nat) (xs : List Value) : Prop :=
  xs.length = n * sz ∧ ((∃ a c, n = 0 ∧ v = .slice a 0 c) ∨
    ∃ b off cap, v = .slice (some ⟨b, off, none⟩) n cap ∧ 0 < n ∧ n ≤ cap ∧ cap ≤ maxLen ∧ ∀ j u, xs[j]? = some u → w.cell? ⟨b, off + j, none⟩ = some u)
theorem Sl.rd {w : World} {sz n : Nat} {v : Value} {blk : Option Nat} {xs : List Value} (h : Sl w sz v blk n xs) : Rd w sz v n xs := by
  obtain ⟨hl, ⟨a, _, rfl, rfl⟩ | ⟨b, off, cap, _, rfl, h0, hle, hm, hc, _⟩⟩ := h
  · exact ⟨hl, .inl ⟨a, 0, rfl, rfl⟩⟩
  · rcases Nat.eq_zero_or_pos n with hn | hn
    · subst hn; exact ⟨hl, .inl ⟨_, cap, rfl, rfl⟩⟩
    · exact ⟨hl, .inr ⟨b, off, cap, rfl, hn, hle, hm, hc⟩⟩
theorem Rd.below {w w' : World} {sz n : Nat} {v : Value} {xs : List Value} (h : Rd w sz v n xs) (hb : Below w.heap.size w w') : Rd w' sz v n xs := by
  obtain ⟨hl, h | ⟨b, off, cap, rfl, hn, h1, h2, hc⟩⟩ := h
  · exact ⟨hl, .inl h⟩
  · refine ⟨hl, .inr ⟨b, off, cap, rfl, hn, h1, h2, fun j u hj => ?_⟩⟩
    have := hc j u hj
    rw [hb.cell (p := ⟨b, off + j, none⟩) (cell_lt this)]; exact this
/-- Bytes as cells. -/
def bvals (l : List UInt8) : List Value := l.map fun b => .int .u8 (b.toNat : Int)
theorem bvals_length (l : List UInt8) : (bvals l).length = l.length := by simp [bvals]
theorem bvals_append (a b : List UInt8) : bvals (a ++ b) = bvals a ++ bvals b := by simp [bvals]
theorem bvals_get (l : List UInt8) (j : Nat) (h : j < l.length) : (bvals l)[j]? = some (.int .u8 ((l[j]).toNat : Int)) := by simp [bvals, h]
theorem bvals_one (l : List UInt8) : ∀ u ∈ bvals l, u.oneCell' = true := by
  intro u hu; simp only [bvals, List.mem_map] at hu; obtain ⟨_, _, rfl⟩ := hu; rfl
theorem Rd.len {w : World} {sz n : Nat} {v : Value} {xs : List Value} (h : Rd w sz v n xs) : ∃ a c, v = .slice a n c := by
  obtain ⟨_, ⟨a, c, rfl, rfl⟩ | ⟨b, off, cap, rfl, _⟩⟩ := h
  · exact ⟨a, c, rfl⟩
  · exact ⟨_, _, rfl⟩

/-- What an append's second argument yields. -/
theorem Sl.src {P : Program} {w : World} {sz n : Nat} {v : Value} {blk : Option Nat} {xs : List Value} (h : Sl w sz v blk n xs) (h1 : ∀ u ∈ xs, u.oneCell' = true) {tx e' : TypeId} (hk : P.underlying tx = some (.slice e')) : Src P sz tx v n xs w := by
  obtain ⟨hl, ⟨a, _, rfl, rfl⟩ | ⟨b, off, cap, _, rfl, h0, hle, _, hc, _⟩⟩ := h
  · have : xs = [] := by simpa using hl
    subst this
    cases a with
    | none => exact Src.ofNil w hk 0
    | some a => exact Src.ofSlice w hk a 0 0 [] (by simp) (fun j u hj => by simp at hj) (fun u hu => by simp at hu)
  · refine Src.ofSlice w hk ⟨b, off, none⟩ n cap xs hl (fun j u hj => ?_) h1
    rw [Addr.add_lit]; exact hc j u hj

theorem firstCells_sl {P : Program} {w : World} {sz n : Nat} {v : Value} {blk : Option Nat} {xs : List Value} (h : Sl w sz v blk n xs) : (Builtin.firstCells sz n v).run P w = .ok xs.toArray w := by
  obtain ⟨hl, ⟨a, _, rfl, rfl⟩ | ⟨b, off, cap, _, rfl, h0, hle, _, hc, _⟩⟩ := h
  · have : xs = [] := by simpa using hl
    subst this
    cases a with
    | none => exact run_firstCells_none w sz 0 0 0
    | some a => exact run_firstCells_some w sz 0 a 0 0 [] (by simp) (fun j u hj => by simp at hj)
  · refine run_firstCells_some w sz n ⟨b, off, none⟩ n cap xs hl (fun j u hj => ?_)
    rw [Addr.add_lit]; exact hc j u hj

theorem nextcap_le (need old : Nat) (h : old < need) : Builtin.nextslicecap need old ≤ 2 * need + 256 + 768 + need := by
  unfold Builtin.nextslicecap
  split
  · omega
  · split
    · omega
    · have key : ∀ r c, Builtin.growBy need r c ≤ max c (c + need + (c + 768)) ∨ Builtin.growBy need r c ≤ 2 * need + 768 := by
        intro r
        induction r with
        | zero => intro c; left; simp [Builtin.growBy]; omega
        | succ r ih =>
          intro c
          unfold Builtin.growBy
          split
          · left; omega
          · rcases ih (c + (c + 768) / 4) with h1 | h1
            · by_cases hr : need ≤ c + (c + 768) / 4
              · have : Builtin.growBy need r (c + (c + 768) / 4) = c + (c + 768) / 4 := by cases r <;> simp [Builtin.growBy, hr]
                right; rw [this]; omega
              · have hbig : ∀ r c, c ≤ need → Builtin.growBy need r c ≤ 2 * need + 768 := by
                  intro r
                  induction r with
                  | zero => intro c hc; simp [Builtin.growBy]; omega
                  | succ r ih2 =>
                    intro c hc
                    unfold Builtin.growBy
                    split
                    · omega
                    · by_cases hr : need ≤ c + (c + 768) / 4
                      · have : Builtin.growBy need r (c + (c + 768) / 4) = c + (c + 768) / 4 := by cases r <;> simp [Builtin.growBy, hr]
                        rw [this]; omega
                      · exact ih2 _ (by omega)
                right; exact hbig r _ (by omega)
            · right; exact h1
      rcases key 4 old with h1 | h1 <;> omega

theorem tape_setCells (b : Nat) : ∀ (vs : List Value) (o : Nat) (w : World), (w.setCells b o vs).tape = w.tape
  | [], _, _ => rfl
  | _ :: r, o, _ => (tape_setCells b r (o + 1) _).trans rfl
theorem size_setCells (b : Nat) : ∀ (vs : List Value) (o : Nat) (w : World), (w.setCells b o vs).heap.size = w.heap.size
  | [], _, _ => rfl
  | _ :: r, o, _ => (size_setCells b r (o + 1) _).trans (by simp [World.setCell])

/-- append: whichever way it goes. -/
theorem run_append_sl {P : Program} {w : World} {sz n m : Nat} {v xv : Value} {blk : Option Nat} {xs ys : List Value} (h : Sl w sz v blk n xs) (t tx ty e : TypeId) (i : TypeInfo) (z : Value) (bytes : Nat)
    (ht : P.underlying t = some (.slice e)) (hi : P.info? e = some i) (hz : i.zero = some z) (hsz : i.size = sz) (hby : i.bytes = bytes) (hzs : z.cells.size = sz) (hpos : 0 < sz)
    (hs : Src P sz tx xv m ys w) (hbig : (3 * (n + m) + 1024) * (bytes + 1) ≤ 281474976710656) :
    ∃ v' w' blk', (Builtin.append_ #[t, tx] ty #[v, xv]).run P w = .ok v' w' ∧ Sl w' sz v' blk' (n + m) (xs ++ ys) ∧ (blk' = blk ∨ ∃ b, blk' = some b ∧ w.heap.size ≤ b) ∧ Kept (fun k => blk = some k) w w' ∧ ((∃ b, blk' = some b ∧ blk ≠ some b) → v' ≠ .slice none 0 0) := by
  have hl := h.1
  have hml : ys.length = m * sz := hs.newsLen
  have hnm : 3 * (n + m) + 1024 ≤ 281474976710656 := Nat.le_trans (Nat.le_mul_of_pos_right _ (Nat.succ_pos _)) hbig
  have grow : ∀ (base : Option Addr) (cap : Nat), v = .slice base n cap → cap < n + m → ∃ v' w' blk', (Builtin.append_ #[t, tx] ty #[v, xv]).run P w = .ok v' w' ∧ Sl w' sz v' blk' (n + m) (xs ++ ys) ∧ (blk' = blk ∨ ∃ b, blk' = some b ∧ w.heap.size ≤ b) ∧ Kept (fun k => blk = some k) w w' ∧ ((∃ b, blk' = some b ∧ blk ≠ some b) → v' ≠ .slice none 0 0) := by
    intro base cap hv hg
    subst hv
    subst hsz
    have hold : (Builtin.firstCells i.size n (.slice base n cap)).run P w.drew = .ok xs.toArray w.drew := firstCells_sl (w := w.drew) (h.of_block fun _ _ => rfl)
    have hfit : Builtin.nextslicecap (n + m) cap * i.bytes ≤ 281474976710656 := by
      have h1 := nextcap_le (n + m) cap hg
      have h2 : Builtin.nextslicecap (n + m) cap * i.bytes ≤ (3 * (n + m) + 1024) * (bytes + 1) := Nat.mul_le_mul (by omega) (by omega)
      exact Nat.le_trans h2 hbig
    have hrun := run_append_grow_src w t tx ty e i z ht hi hz base n cap xs hold xv m ys hs hg (by omega) hfit
    have hge := grownCap_ge w (n + m) cap e
    have hle := grownCap_le_maxLen w (n + m) cap e (by unfold maxLen; omega)
    generalize grownCap w (n + m) cap e = c at hrun hge hle
    have hsize : ((xs ++ ys).toArray ++ Builtin.zeroCells z.cells (c - (n + m))).size = c * i.size := by
      rw [Array.size_append, List.size_toArray, List.length_append, hl, hml, size_zeroCells, hzs, ← Nat.add_mul, ← Nat.add_mul, Nat.add_sub_cancel' hge]
    refine ⟨_, _, some w.heap.size, hrun, ⟨by rw [List.length_append, hl, hml, Nat.add_mul], .inr ⟨w.heap.size, 0, c, rfl, rfl, by omega, hge, hle, fun j u hj => ?_, fun j hj => ?_⟩⟩, .inr ⟨_, rfl, Nat.le_refl _⟩, (Kept.refl _ w).drew.alloc _, fun _ hc => by cases hc⟩
    · have hjl : j < (xs ++ ys).length := (List.getElem?_eq_some_iff.1 hj).1
      rw [Nat.zero_add, cell_of_row _ w.heap.size j _ e (0, 0) (heap_alloc_new w.drew _), Array.getElem?_append_left (by simpa using hjl)]
      simpa using hj
    · rw [Nat.zero_add]
      refine ⟨?_, ?_⟩
      · rw [cell_of_row _ w.heap.size j _ e (0, 0) (heap_alloc_new w.drew _), Array.getElem?_eq_getElem (by rw [hsize]; exact hj)]; rfl
      · unfold World.frozen?
        simp only [show (w.drew.alloc (Obj.cells ((xs ++ ys).toArray ++ Builtin.zeroCells z.cells (c - (n + m))) e)).heap[w.heap.size]? = _ from heap_alloc_new w.drew _]
        simp
  obtain ⟨_, ⟨a, rfl, rfl, rfl⟩ | ⟨b, off, cap, rfl, rfl, h0, hle, hmx, hc, hth⟩⟩ := h
  · by_cases hm : m = 0
    · subst hm
      have hys : ys = [] := by simpa using hml
      have hxs : xs = [] := by simpa using hl
      subst hys hxs
      refine ⟨.slice a 0 0, w, none, ?_, ⟨by simp, .inl ⟨a, rfl, rfl, rfl⟩⟩, .inl rfl, Kept.refl _ _, fun ⟨b, hb, _⟩ => by cases hb⟩
      have hcells := hs.cells
      cases a with
      | none =>
        rcases hs.kind with ⟨e', hk⟩ | hk <;> simp [Builtin.append_, run_underlying ht, run_underlying hk, sizeOf, typeInfo, hi, hs.len, hsz, hcells]
      | some a =>
        rcases hs.kind with ⟨e', hk⟩ | hk <;> simp [Builtin.append_, run_underlying ht, run_underlying hk, sizeOf, typeInfo, hi, hs.len, hsz, hcells, storeCells]
    · exact grow a 0 rfl (by omega)
  · by_cases hr : n + m ≤ cap
    · have hbd : ∀ j, j < ys.length → n * sz + j < cap * sz := fun j hj => by
        have : (n + m) * sz ≤ cap * sz := Nat.mul_le_mul_right _ hr
        rw [Nat.add_mul] at this; omega
      have hrun := run_append_room_src w t tx ty e i ht hi b off n cap xv m ys (by rw [hsz]; exact hs) hr
        (fun j hj => by rw [hsz, Nat.add_assoc]; exact (hth _ (hbd j hj)).1) (fun j hj => by rw [hsz, Nat.add_assoc]; exact (hth _ (hbd j hj)).2)
      rw [hsz] at hrun
      have hin := World.cell?_setCells_in b ys (off + n * sz) w (fun j hj => by rw [Nat.add_assoc]; exact (hth _ (hbd j hj)).1)
      refine ⟨_, _, some b, hrun, ⟨by rw [List.length_append, hl, hml, Nat.add_mul], .inr ⟨b, off, cap, rfl, rfl, h0, hr, hmx, fun j u hj => ?_, fun j hj => ?_⟩⟩, .inl rfl, ?_, fun ⟨_, h1, h2⟩ => absurd h1 h2⟩
      · by_cases hjx : j < xs.length
        · rw [List.getElem?_append_left hjx] at hj
          rw [World.cell?_setCells_out b ys _ w _ (fun _ _ => .inl (by simp; omega))]
          exact hc j u hj
        · rw [List.getElem?_append_right (by omega)] at hj
          have hjy : j - xs.length < ys.length := (List.getElem?_eq_some_iff.1 hj).1
          have h1 := hin (j - xs.length) hjy
          rw [show off + n * sz + (j - xs.length) = off + j by omega] at h1
          rw [h1, ← hj, List.getElem?_eq_getElem hjy]
      · rw [World.frozen?_setCells]
        exact ⟨World.isSome_setCells b ys _ w _ (hth j hj).1, (hth j hj).2⟩
      · exact ⟨World.os_setCells _ _ _ _, tape_setCells _ _ _ _, World.output_setCells _ _ _ _, Nat.le_of_eq (size_setCells _ _ _ _).symm, fun k hk hn => World.heap_setCells_other w b _ ys hk (fun e => hn (by rw [e]))⟩
    · exact grow _ cap rfl (by omega)


/-- append, as an arm of a walk. -/
theorem wpList_append_sl {P : Program} {w : World} {ops : Array Oper} {rest : List Oper} {o : Oper} {a : Act} {Q : Exit → Act → World → Prop} (hgd : o.guard = none) (s x : Operand) (t tx e : TypeId)
    (ho : o.op = .call { callee := .builtin .append, args := #[s, x], argTypes := #[t, tx] }) {z : Value} {sz bytes : Nat}
    (ht : P.underlying t = some (.slice e)) (hinfo : (P.info? e).map (fun i => (i.zero, i.size, i.bytes)) = some (some z, sz, bytes)) (hzs : z.cells.size = sz) (hpos : 0 < sz)
    {n m : Nat} {v xv : Value} {blk : Option Nat} {xs ys : List Value} (hv : a.eval s = v) (hx : a.eval x = xv) (h : Sl w sz v blk n xs) (hs : Src P sz tx xv m ys w) (hbig : (3 * (n + m) + 1024) * (bytes + 1) ≤ 281474976710656)
    (hK : ∀ v' w' blk', Sl w' sz v' blk' (n + m) (xs ++ ys) → (blk' = blk ∨ ∃ b, blk' = some b ∧ w.heap.size ≤ b) → Kept (fun k => blk = some k) w w' → wpList P ops Q rest (a.put o.dst v') w') : wpList P ops Q (o :: rest) a w := by
  obtain ⟨i, hi, hz, hsz, hby⟩ : ∃ i, P.info? e = some i ∧ i.zero = some z ∧ i.size = sz ∧ i.bytes = bytes := by
    cases hi : P.info? e with
    | none => rw [hi] at hinfo; simp at hinfo
    | some i => rw [hi] at hinfo; simp at hinfo; exact ⟨i, rfl, hinfo.1, hinfo.2.1, hinfo.2.2⟩
  refine wpList_plain hgd fun K hK' => ?_
  obtain ⟨v', w', blk', hrun, h1, h2, h3, _⟩ := run_append_sl (P := P) h t tx o.type e i z bytes ht hi hz hsz hby hzs hpos hs hbig
  unfold Oper.wp
  simp [execOp, ho, resolve, invoke, builtin, hv, hx, hrun, Result.andThen]
  exact hK' _ _ (hK v' w' blk' h1 h2 h3)

/-- A slice literal's new row. -/
theorem Sl.lit {w : World} {e : TypeId} (sz n : Nat) (xs : List Value) (hl : xs.length = n * sz) (hn : 0 < n) (hm : n ≤ maxLen) :
    Sl (w.alloc (.cells xs.toArray e)) sz (.slice (some ⟨w.heap.size, 0, none⟩) n n) (some w.heap.size) n xs := by
  have hb : (w.alloc (.cells xs.toArray e)).heap[w.heap.size]? = some (.cells xs.toArray e (0, 0)) := heap_alloc_new _ _
  refine ⟨hl, .inr ⟨_, 0, n, rfl, rfl, hn, Nat.le_refl _, hm, fun j u hj => ?_, fun j hj => ?_⟩⟩
  · rw [Nat.zero_add, cell_of_row _ _ _ _ _ _ hb]; simpa using hj
  · rw [Nat.zero_add, cell_of_row _ _ _ _ _ _ hb]
    exact ⟨by rw [Array.getElem?_eq_getElem (by simp; omega)]; rfl, frozen_of_row _ _ _ _ _ hb⟩


theorem Sl.of_owns {w : World} {base : Nat} {e : TypeId} {sz n : Nat} {v : Value} {xs : List Value} (h : w.ownsRow base e sz v n xs) : ∃ blk, Sl w sz v blk n xs ∧ ∀ b, blk = some b → base ≤ b := by
  obtain ⟨hl, ⟨hv, hx⟩ | ⟨g, cap, cur, rfl, hg, hb, hn, hm, hs, hc⟩⟩ := h
  · have hn0 : n = 0 := by
      by_cases h0 : n = 0
      · exact h0
      · simp_all
    subst hn0
    exact ⟨none, ⟨hl, .inl ⟨none, rfl, rfl, hv⟩⟩, fun b hb => by cases hb⟩
  · rcases Nat.eq_zero_or_pos cap with h0 | h0
    · subst h0
      obtain rfl : n = 0 := by omega
      exact ⟨none, ⟨hl, .inl ⟨_, rfl, rfl, rfl⟩⟩, fun b hb => by cases hb⟩
    · refine ⟨some g, ⟨hl, .inr ⟨g, 0, cap, rfl, rfl, h0, hn, hm, fun j u hj => ?_, fun j hj => ?_⟩⟩, fun b hb => by obtain rfl := Option.some.inj hb; exact hg⟩
      · rw [Nat.zero_add, cell_of_row w g j _ _ _ hb]
        have hjx : j < xs.length := (List.getElem?_eq_some_iff.1 hj).1
        rw [← hc, List.getElem?_take_of_lt (by omega)] at hj
        simpa using hj
      · rw [Nat.zero_add, cell_of_row w g j _ _ _ hb]
        exact ⟨by rw [Array.getElem?_eq_getElem (by omega)]; rfl, frozen_of_row _ _ _ _ _ hb⟩


/-- A store into a slice of one's own. -/
theorem Sl.store {w : World} {sz n b off cap : Nat} {xs : List Value} (h : Sl w sz (.slice (some ⟨b, off, none⟩) n cap) (some b) n xs) (k : Nat) (u : Value) (hk : k < xs.length) :
    Sl (w.setCell ⟨b, off + k, none⟩ u) sz (.slice (some ⟨b, off, none⟩) n cap) (some b) n (xs.set k u) := by
  obtain ⟨hl, ⟨_, h, _⟩ | ⟨b', off', cap', hb, hv, h0, h1, h2, hc, ht⟩⟩ := h
  · cases h
  · obtain rfl := Option.some.inj hb
    simp only [Value.slice.injEq, Option.some.injEq, Addr.mk.injEq, and_true, true_and] at hv
    obtain ⟨rfl, rfl⟩ := hv
    refine ⟨by simpa using hl, .inr ⟨b, off, cap, rfl, rfl, h0, h1, h2, fun j v hj => ?_, fun j hj => ?_⟩⟩
    · rw [List.getElem?_set] at hj
      by_cases e : k = j
      · subst e
        rw [if_pos rfl, if_pos hk] at hj
        obtain rfl := Option.some.inj hj
        exact World.cell?_setCell_same' w _ _ (by rw [hc k _ (List.getElem?_eq_getElem hk)]; rfl)
      · rw [if_neg e] at hj
        rw [World.cell?_setCell_other _ _ _ _ (by intro hh; injection hh with _ hh; omega)]
        exact hc j v hj
    · have := ht j hj
      refine ⟨?_, ?_⟩
      · by_cases e : j = k
        · subst e; rw [World.cell?_setCell_same' w _ _ this.1]; rfl
        · rw [World.cell?_setCell_other _ _ _ _ (by intro hh; injection hh with _ hh; omega)]; exact this.1
      · have hfz : (w.setCell ⟨b, off + k, none⟩ u).frozen? ⟨b, off + j, none⟩ = w.frozen? ⟨b, off + j, none⟩ := by simp
        rw [hfz]; exact this.2


/-- make, as an arm of a walk. -/
theorem wpList_make_sl {P : Program} (w : World) {ops : Array Oper} {rest : List Oper} {o : Oper} {a : Act} {Q : Exit → Act → World → Prop}
    (hg : o.guard = none) (l c : Operand) (t e : TypeId) (hop : o.op = Op.makeSlice t l c) {z : Value} {sz bytes : Nat} (h1 : P.underlying t = some (.slice e))
    (hinfo : (P.info? e).map (fun i => (i.zero, i.size, i.bytes)) = some (some z, sz, bytes)) (kl kc : IntKind) (n : Nat) (hl : a.eval l = .int kl n) (hc : a.eval c = .int kc n) (b2 : bytes * n ≤ 281474976710656) (b3 : n ≤ maxLen)
    (hK : ∀ w' v blk, v = .slice (some ⟨w.heap.size, 0, none⟩) n n → Sl w' sz v blk n (madeCells z.cells (n * sz)).toList → (∀ b, blk = some b → w.heap.size ≤ b) → Below w.heap.size w w' → wpList P ops Q rest (a.put o.dst v) w') :
    wpList P ops Q (o :: rest) a w := by
  obtain ⟨i, hi, hz, hsz, hby⟩ : ∃ i, P.info? e = some i ∧ i.zero = some z ∧ i.size = sz ∧ i.bytes = bytes := by
    cases hi : P.info? e with
    | none => rw [hi] at hinfo; simp at hinfo
    | some i => rw [hi] at hinfo; simp at hinfo; exact ⟨i, rfl, hinfo.1, hinfo.2.1, hinfo.2.2⟩
  refine wpList_make_full w hg l c t hop w.heap.size e i z sz h1 hi hz hsz kl kc n n n hl hc rfl rfl (by rw [hby]; exact b2) b3 (Nat.le_refl _) fun w' ho hgr => ?_
  obtain ⟨blk, hs, hb⟩ := Sl.of_owns ho
  exact hK w' _ blk rfl hs hb ⟨hgr.os, hgr.tape, hgr.output, hgr.size, fun k hk => hgr.block k hk (by simp)⟩

theorem madeCells_bytes (n : Nat) : (madeCells (Value.int .u8 0).cells (n * 1)).toList = bvals (List.replicate n 0) := by
  apply List.ext_getElem
  · simp [madeCells, bvals]
  · intro j h1 h2
    simp [madeCells, bvals, Value.cells, Nat.mod_one]

end Go.Proofs.YtclgnginmgleaaaDoor
