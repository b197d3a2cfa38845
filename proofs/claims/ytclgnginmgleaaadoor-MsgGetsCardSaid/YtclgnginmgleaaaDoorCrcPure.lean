/-
  Plain mathematics of the checksum, without Go: a number of 32 bits goes through steps; a step is linear and one-to-one; a byte is eight steps.
-/
import Derived.WalkKit
namespace Go.Proofs.YtclgnginmgleaaaDoor.Crc

/-- One step. -/
def step (c : BitVec 32) : BitVec 32 := (c >>> 1) ^^^ (if c.getLsbD 0 then 0xedb88320#32 else 0#32)

def steps : Nat → BitVec 32 → BitVec 32
  | 0, c => c
  | n + 1, c => steps n (step c)

theorem steps_add (m n : Nat) (c : BitVec 32) : steps (m + n) c = steps n (steps m c) := by
  induction m generalizing c with
  | zero => simp [steps]
  | succ m ih => rw [Nat.succ_add]; simp only [steps]; exact ih _

theorem steps_succ' (n : Nat) (c : BitVec 32) : steps (n + 1) c = step (steps n c) := by
  rw [steps_add n 1]; rfl

theorem step_xor (a b : BitVec 32) : step (a ^^^ b) = step a ^^^ step b := by
  unfold step
  rw [BitVec.ushiftRight_xor_distrib, BitVec.getLsbD_xor]
  have self : ∀ x y p : BitVec 32, x ^^^ y = x ^^^ p ^^^ (y ^^^ p) := by
    intro x y p
    apply BitVec.eq_of_getLsbD_eq
    intro i hi
    simp only [BitVec.getLsbD_xor]
    cases x.getLsbD i <;> cases y.getLsbD i <;> cases p.getLsbD i <;> rfl
  cases a.getLsbD 0 <;> cases b.getLsbD 0 <;> simp <;> first | exact self _ _ _ | ac_rfl

theorem steps_xor (n : Nat) (a b : BitVec 32) : steps n (a ^^^ b) = steps n a ^^^ steps n b := by
  induction n generalizing a b with
  | zero => rfl
  | succ n ih => simp only [steps]; rw [step_xor, ih]

theorem step_zero : step 0#32 = 0#32 := by decide
theorem steps_zero (n : Nat) : steps n 0#32 = 0#32 := by
  induction n with
  | zero => rfl
  | succ n ih => simp only [steps]; rw [step_zero, ih]

theorem step_msb (c : BitVec 32) : (step c).getLsbD 31 = c.getLsbD 0 := by
  unfold step
  rw [BitVec.getLsbD_xor, BitVec.getLsbD_ushiftRight]
  have h : c.getLsbD (1 + 31) = false := BitVec.getLsbD_of_ge _ _ (by omega)
  rw [h]
  cases c.getLsbD 0 <;> decide

theorem step_ne (c : BitVec 32) (h : step c = 0#32) : c = 0#32 := by
  have h0 : c.getLsbD 0 = false := by rw [← step_msb, h]; decide
  have h1 : c >>> 1 = 0#32 := by
    unfold step at h
    rw [h0] at h
    simpa using h
  apply BitVec.eq_of_getLsbD_eq
  intro i hi
  cases i with
  | zero => simpa using h0
  | succ i =>
    have := congrArg (fun x : BitVec 32 => x.getLsbD i) h1
    simp only [BitVec.getLsbD_ushiftRight] at this
    rw [Nat.add_comm] at this
    simpa using this

theorem steps_ne (n : Nat) (c : BitVec 32) (h : steps n c = 0#32) : c = 0#32 := by
  induction n generalizing c with
  | zero => exact h
  | succ n ih => exact step_ne _ (ih _ h)

/-- A step with a bit laid against the lowest one. -/
def bitStep (s : BitVec 32) (b : Bool) : BitVec 32 := step (s ^^^ (if b then 1#32 else 0#32))

/-- The first k bits of w. -/
def bitsOf (w : BitVec 32) (k : Nat) : List Bool := (List.range k).map fun i => w.getLsbD i

theorem bitsOf_succ (w : BitVec 32) (k : Nat) : bitsOf w (k + 1) = bitsOf w k ++ [w.getLsbD k] := by
  unfold bitsOf; rw [List.range_succ, List.map_append]; rfl

theorem shift_split (w : BitVec 32) (k : Nat) : w >>> k = (if w.getLsbD k then 1#32 else 0#32) ^^^ ((w >>> (k + 1)) <<< 1) := by
  apply BitVec.eq_of_getLsbD_eq
  intro i hi
  rw [BitVec.getLsbD_xor, BitVec.getLsbD_ushiftRight, BitVec.getLsbD_shiftLeft]
  cases i with
  | zero => cases w.getLsbD k <;> simp
  | succ i =>
    rw [BitVec.getLsbD_ushiftRight]
    have h1 : (if w.getLsbD k then 1#32 else 0#32 : BitVec 32).getLsbD (i + 1) = false := by
      split
      · rw [BitVec.getLsbD_one]; simp
      · simp
    rw [h1]
    simp only [Bool.false_xor]
    have e : k + (i + 1) = k + 1 + (i + 1 - 1) := by omega
    rw [e]
    simp [hi]

theorem step_shl (w : BitVec 32) (k : Nat) (hk : 0 < k) : step ((w >>> k) <<< 1) = w >>> k := by
  unfold step
  have h0 : ((w >>> k) <<< 1).getLsbD 0 = false := by simp
  rw [h0]
  apply BitVec.eq_of_getLsbD_eq
  intro i hi
  simp only [Bool.false_eq_true, if_false, BitVec.xor_zero]
  rw [BitVec.getLsbD_ushiftRight, BitVec.getLsbD_shiftLeft]
  by_cases h : 1 + i < 32
  · simp [h]
  · have : (w >>> k).getLsbD i = false := by
      rw [BitVec.getLsbD_ushiftRight]; exact BitVec.getLsbD_of_ge _ _ (by omega)
    simp [this]

/-- k bits of w, one by one: k steps of all, but what of w is not yet there. -/
theorem fold_bits (w : BitVec 32) (s : BitVec 32) (k : Nat) : (bitsOf w k).foldl bitStep s ^^^ (w >>> k) = steps k (s ^^^ w) := by
  induction k with
  | zero => simp [bitsOf, steps]
  | succ k ih =>
    rw [bitsOf_succ, List.foldl_append, steps_succ', ← ih]
    simp only [List.foldl_cons, List.foldl_nil, bitStep]
    rw [shift_split w k, ← BitVec.xor_assoc, step_xor _ ((w >>> (k + 1)) <<< 1), step_shl _ _ (by omega)]

theorem fold_bits_all (w : BitVec 32) (s : BitVec 32) : (bitsOf w 32).foldl bitStep s = steps 32 (s ^^^ w) := by
  rw [← fold_bits]
  have : w >>> 32 = 0#32 := by
    apply BitVec.eq_of_getLsbD_eq
    intro i hi
    rw [BitVec.getLsbD_ushiftRight, BitVec.getLsbD_of_ge _ _ (by omega)]
    simp
  rw [this]; simp

/-- A byte. -/
def byteStep (s : BitVec 32) (x : BitVec 8) : BitVec 32 := steps 8 (s ^^^ x.setWidth 32)

theorem fold_byte (s : BitVec 32) (x : BitVec 8) : ((List.range 8).map fun i => x.getLsbD i).foldl bitStep s = byteStep s x := by
  have h := fold_bits (x.setWidth 32) s 8
  have hz : (x.setWidth 32) >>> 8 = 0#32 := by
    apply BitVec.eq_of_getLsbD_eq
    intro i hi
    rw [BitVec.getLsbD_ushiftRight, BitVec.getLsbD_setWidth]
    simp
  rw [hz, BitVec.xor_zero] at h
  unfold byteStep
  rw [← h]
  unfold bitsOf
  congr 1

/-- What the table has, and the rest. -/
theorem byte_table (s : BitVec 32) (x : BitVec 8) : byteStep s x = steps 8 ((s.setWidth 8 ^^^ x).setWidth 32) ^^^ (s >>> 8) := by
  unfold byteStep
  have e : s ^^^ x.setWidth 32 = (s.setWidth 8 ^^^ x).setWidth 32 ^^^ ((s >>> 8) <<< 8) := by
    apply BitVec.eq_of_getLsbD_eq
    intro i hi
    simp only [BitVec.getLsbD_xor, BitVec.getLsbD_setWidth, BitVec.getLsbD_shiftLeft, BitVec.getLsbD_ushiftRight, hi, decide_true, Bool.true_and]
    by_cases h8 : i < 8
    · simp [h8]
    · simp [h8]
      have : 8 + (i - 8) = i := by omega
      rw [this]
      cases hx : x.getLsbD i
      · simp
      · exact absurd (BitVec.lt_of_getLsbD hx) h8
  rw [e, steps_xor]
  congr 1
  have key : ∀ k, k ≤ 8 → steps k ((s >>> 8) <<< k) = s >>> 8 := by
    intro k hk
    induction k with
    | zero => simp [steps]
    | succ k ih =>
      simp only [steps]
      have : step ((s >>> 8) <<< (k + 1)) = (s >>> 8) <<< k := by
        unfold step
        have h0 : ((s >>> 8) <<< (k + 1)).getLsbD 0 = false := by simp
        rw [h0]
        apply BitVec.eq_of_getLsbD_eq
        intro i hi
        simp only [Bool.false_eq_true, if_false, BitVec.xor_zero]
        simp only [BitVec.getLsbD_ushiftRight, BitVec.getLsbD_shiftLeft]
        by_cases h : 1 + i < 32
        · by_cases hik : i < k
          · simp [hik, h]; omega
          · have e1 : 1 + i - (k + 1) = i - k := by omega
            have e2 : ¬ 1 + i < k + 1 := by omega
            simp [hik, h, e1, e2, hi]
        · have hi31 : i = 31 := by omega
          subst hi31
          by_cases hik : 31 < k
          · omega
          · have : s.getLsbD (8 + (31 - k)) = false := BitVec.getLsbD_of_ge _ _ (by omega)
            simp [this]
      rw [this]; exact ih (by omega)
  exact key 8 (by omega)

/-- Bytes. -/
def run (s : BitVec 32) (l : List (BitVec 8)) : BitVec 32 := l.foldl byteStep s

theorem run_append (s : BitVec 32) (a b : List (BitVec 8)) : run s (a ++ b) = run (run s a) b := by simp [run, List.foldl_append]

theorem byteStep_xor (s t : BitVec 32) (x y : BitVec 8) : byteStep (s ^^^ t) (x ^^^ y) = byteStep s x ^^^ byteStep t y := by
  unfold byteStep
  rw [← steps_xor]
  congr 1
  apply BitVec.eq_of_getLsbD_eq
  intro i hi
  simp only [BitVec.getLsbD_xor, BitVec.getLsbD_setWidth, hi, decide_true, Bool.true_and]
  cases s.getLsbD i <;> cases t.getLsbD i <;> cases x.getLsbD i <;> cases y.getLsbD i <;> rfl

/-- Lists laid over one another. -/
theorem run_xor (s t : BitVec 32) : ∀ (a b : List (BitVec 8)), a.length = b.length → run (s ^^^ t) (List.zipWith (· ^^^ ·) a b) = run s a ^^^ run t b := by
  intro a
  induction a generalizing s t with
  | nil => intro b hb; cases b with
    | nil => rfl
    | cons y b => simp at hb
  | cons x a ih =>
    intro b hb
    cases b with
    | nil => simp at hb
    | cons y b =>
      simp only [List.zipWith_cons_cons, run, List.foldl_cons]
      rw [byteStep_xor]
      exact ih _ _ b (by simpa using hb)

/-- The sum. -/
def sum (l : List (BitVec 8)) : BitVec 32 := ~~~ (run (~~~ 0#32) l)
def more (s : BitVec 32) (l : List (BitVec 8)) : BitVec 32 := ~~~ (run (~~~ s) l)

theorem more_sum (a b : List (BitVec 8)) : more (sum a) b = sum (a ++ b) := by
  unfold more sum; rw [BitVec.not_not, run_append]

theorem xor_not3 (a b c : BitVec 32) : ~~~ (a ^^^ b ^^^ c) = ~~~ a ^^^ ~~~ b ^^^ ~~~ c := by
  apply BitVec.eq_of_getLsbD_eq
  intro i hi
  simp only [BitVec.getLsbD_xor, BitVec.getLsbD_not, hi, decide_true, Bool.true_and]
  cases a.getLsbD i <;> cases b.getLsbD i <;> cases c.getLsbD i <;> rfl

/-- Three texts of one length. -/
theorem sum_lays (a b c : List (BitVec 8)) (h1 : a.length = b.length) (h2 : b.length = c.length) :
    sum (List.zipWith (· ^^^ ·) (List.zipWith (· ^^^ ·) a b) c) = sum a ^^^ sum b ^^^ sum c := by
  unfold sum
  have e : (~~~ 0#32 : BitVec 32) = ~~~ 0#32 ^^^ ~~~ 0#32 ^^^ ~~~ 0#32 := by decide
  have h := run_xor (~~~ 0#32 ^^^ ~~~ 0#32) (~~~ 0#32) (List.zipWith (· ^^^ ·) a b) c (by simp; omega)
  rw [← e, run_xor _ _ a b h1] at h
  rw [h, xor_not3]

/-! Bytes of which some bits are turned. -/

theorem run_bits (s : BitVec 32) (l : List (BitVec 8)) : run s l = (l.flatMap fun x => (List.range 8).map fun i => x.getLsbD i).foldl bitStep s := by
  induction l generalizing s with
  | nil => rfl
  | cons x l ih =>
    simp only [List.flatMap_cons, List.foldl_append, run, List.foldl_cons]
    rw [fold_byte]
    exact ih _

theorem fold_falses (s : BitVec 32) (n : Nat) : (List.replicate n false).foldl bitStep s = steps n s := by
  induction n generalizing s with
  | zero => rfl
  | succ n ih => rw [List.replicate_succ, List.foldl_cons, ih]; simp [bitStep, steps]

theorem fold_falses_zero (n : Nat) : (List.replicate n false).foldl bitStep 0#32 = 0#32 := by rw [fold_falses, steps_zero]

/-- The five bytes of a number of 40 bits. -/
def five (x : BitVec 64) : List (BitVec 8) := (List.range 5).map fun i => (x >>> (8 * i)).setWidth 8

theorem five_bits (x : BitVec 64) : ((five x).flatMap fun y => (List.range 8).map fun i => y.getLsbD i) = (List.range 40).map fun i => x.getLsbD i := by
  apply List.ext_getElem
  · simp [five, List.range_succ]
  · intro i h1 h2
    have hi : i < 40 := by simpa using h2
    simp only [five, List.range_succ, List.range_zero]
    simp

theorem burst_bits (t : BitVec 32) (sh : Nat) (h : sh ≤ 8) :
    ((List.range 40).map fun i => (t.setWidth 64 <<< sh).getLsbD i) = List.replicate sh false ++ bitsOf t 32 ++ List.replicate (8 - sh) false := by
  apply List.ext_getElem
  · simp [bitsOf]; omega
  · intro i h1 h2
    have hi : i < 40 := by simpa using h1
    simp only [List.getElem_map, List.getElem_range, BitVec.getLsbD_shiftLeft, BitVec.getLsbD_setWidth]
    by_cases a : i < sh
    · rw [List.getElem_append_left (by simp [bitsOf]; omega), List.getElem_append_left (by simpa using a)]
      simp [a]
    · by_cases b : i < sh + 32
      · rw [List.getElem_append_left (by simp [bitsOf]; omega), List.getElem_append_right (by simpa using a)]
        simp [bitsOf, a, show i < 64 by omega, show i - sh < 64 by omega]
      · rw [List.getElem_append_right (by simp [bitsOf]; omega)]
        simp [a, show i < 64 by omega]
        intro _
        exact BitVec.getLsbD_of_ge _ _ (by omega)

/-- A burst of at most 32 bits leaves a mark. -/
theorem burst_ne (t : BitVec 32) (sh : Nat) (h : sh ≤ 8) (ht : t ≠ 0#32) : run 0#32 (five (t.setWidth 64 <<< sh)) ≠ 0#32 := by
  rw [run_bits, five_bits, burst_bits t sh h, List.foldl_append, List.foldl_append, fold_falses_zero, fold_bits_all, fold_falses]
  intro hz
  have := steps_ne _ _ hz
  have := steps_ne _ _ this
  rw [BitVec.zero_xor] at this
  exact ht this

theorem run_zero_ne (n : Nat) (d : BitVec 32) (h : d ≠ 0#32) : run d (List.replicate n 0#8) ≠ 0#32 := by
  induction n generalizing d with
  | zero => exact h
  | succ n ih =>
    rw [List.replicate_succ]
    show run (byteStep d 0#8) _ ≠ _
    apply ih
    intro hz
    unfold byteStep at hz
    have := steps_ne _ _ hz
    simp at this
    exact h this

theorem zip_zero (n : Nat) (l : List (BitVec 8)) (h : l.length = n) : List.zipWith (· ^^^ ·) l (List.replicate n 0#8) = l := by
  subst h
  induction l with
  | nil => rfl
  | cons x l ih => simp [List.replicate_succ, ih]

/-- Some bits within 32 beside each other are turned: another sum. -/
theorem sum_tells (p m q : List (BitVec 8)) (t : BitVec 32) (sh : Nat) (h : sh ≤ 8) (ht : t ≠ 0#32) (hm : m.length = 5) :
    sum (p ++ m ++ q) ≠ sum (p ++ List.zipWith (· ^^^ ·) m (five (t.setWidth 64 <<< sh)) ++ q) := by
  unfold sum
  simp only [run_append]
  generalize run (~~~ 0#32) p = s
  have h5 : (five (t.setWidth 64 <<< sh)).length = 5 := by simp [five]
  have e1 := run_xor s 0#32 m (five (t.setWidth 64 <<< sh)) (by rw [hm, h5])
  rw [BitVec.xor_zero] at e1
  rw [e1]
  have hd := burst_ne t sh h ht
  generalize run 0#32 (five (t.setWidth 64 <<< sh)) = d at hd
  generalize run s m = s1
  have e2 := run_xor s1 d q (List.replicate q.length 0#8) (by simp)
  rw [zip_zero _ _ rfl] at e2
  rw [e2]
  have hz := run_zero_ne q.length d hd
  generalize run d (List.replicate q.length 0#8) = z at hz
  generalize run s1 q = y
  intro hc
  apply hz
  have hc' : y = y ^^^ z := by
    have := congrArg (fun x : BitVec 32 => ~~~ x) hc
    simpa [BitVec.not_not] using this
  have : y ^^^ y = y ^^^ (y ^^^ z) := congrArg (y ^^^ ·) hc'
  rw [← BitVec.xor_assoc, BitVec.xor_self, BitVec.zero_xor] at this
  exact this.symm

end Go.Proofs.YtclgnginmgleaaaDoor.Crc
