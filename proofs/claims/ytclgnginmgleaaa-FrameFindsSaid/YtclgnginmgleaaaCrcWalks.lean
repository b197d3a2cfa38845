/-
  Walks of package crc and of the reference's CRC: what they compute is the plain checksum.
-/
import Derived.Test.YtclgnginmgleaaaChecked
import Derived.Test.YtclgnginmgleaaaArr
import Derived.Test.YtclgnginmgleaaaFramePure
import Derived.Outline
import Derived.LoopTactic
namespace Go.Proofs.Ytclgnginmgleaaa
open Go Go.RowKit

def zeros256 : Array Value := Array.replicate 256 (.int .u32 0)
def tabAt (i : Nat) : BitVec 32 := Crc.steps 8 (BitVec.ofNat 32 i)
def tabTo (n : Nat) : Array Value := ((List.range 256).map fun i => Value.int .u32 (if i < n then ((tabAt i).toNat : Int) else 0)).toArray

theorem zero49 (w : World) : (zeroValue 49).run Try.prog w = .ok (.agg zeros256) w := by kernel_rfl
theorem size49 (w : World) : (sizeOf 49).run Try.prog w = .ok 256 w := by kernel_rfl
theorem under49 : Try.prog.underlying 49 = some (.array 256 24) := by kernel_rfl
theorem info49 : (Try.prog.info? 49).map (·.size) = some 256 := by kernel_rfl

theorem zeros256_tab : zeros256 = tabTo 0 := by
  unfold zeros256 tabTo
  apply Array.ext'
  simp [List.map_const']
theorem tabTo_size (n : Nat) : (tabTo n).size = 256 := by simp [tabTo]
theorem tabTo_get (n i : Nat) (h : i < 256) : (tabTo n)[i]? = some (.int .u32 (if i < n then ((tabAt i).toNat : Int) else 0)) := by
  simp [tabTo, h]
theorem tabTo_set (n : Nat) : (tabTo n).setIfInBounds n (.int .u32 ((tabAt n).toNat : Int)) = tabTo (n + 1) := by
  apply Array.ext'
  rw [Array.toList_setIfInBounds]
  apply List.ext_getElem
  · simp [tabTo]
  · intro i h1 h2
    rw [List.getElem_set]
    simp only [tabTo, List.getElem_map, List.getElem_range]
    split
    · rename_i e; subst e; simp
    · rename_i e
      by_cases h : i < n
      · simp [h, show i < n + 1 by omega]
      · simp [h, show ¬ i < n + 1 by omega]

theorem low_bit (x : BitVec 32) : bits .and .u32 (x.toNat : Int) 1 = if x.getLsbD 0 then 1 else 0 := by
  have h := bv_and32 x 1#32
  have e : ((1#32 : BitVec 32).toNat : Int) = 1 := by decide
  rw [e] at h
  rw [h, BitVec.and_one_eq_setWidth_ofBool_getLsbD]
  cases x.getLsbD 0 <;> decide
theorem bv_half (x : BitVec 32) : (x.toNat : Int) / (2 : Int) = ((x >>> 1).toNat : Int) := by
  have := bv_shr32 x 1
  simpa using this
theorem step_odd (x : BitVec 32) (h : (bits .and .u32 (x.toNat : Int) 1 == 1) = true) : bits .xor .u32 ((x.toNat : Int) / 2) 3988292384 = ((Crc.step x).toNat : Int) := by
  rw [low_bit] at h
  have hb : x.getLsbD 0 = true := by
    cases hx : x.getLsbD 0
    · rw [hx] at h; simp at h
    · rfl
  have e : (3988292384 : Int) = ((0xedb88320#32 : BitVec 32).toNat : Int) := by decide
  rw [bv_half, e, bv_xor32]
  unfold Crc.step
  rw [hb]; rfl
theorem step_even (x : BitVec 32) (h : (bits .and .u32 (x.toNat : Int) 1 == 1) = false) : (x.toNat : Int) / 2 = ((Crc.step x).toNat : Int) := by
  rw [low_bit] at h
  have hb : x.getLsbD 0 = false := by
    cases hx : x.getLsbD 0
    · rfl
    · rw [hx] at h; simp at h
  rw [bv_half]
  unfold Crc.step
  rw [hb]; simp

set_option maxRecDepth 100000 in
set_option maxHeartbeats 400000 in
theorem build_any (w : World) :
    Calls Try.prog 26 #[] w fun e w' => e = .returned (.agg (tabTo 256)) ∧ Below w.heap.size w w' := by
  go_enter Try.func26, Try.ntmps26
  go_wp2_with (refine wpList_alloc_any rfl rfl zero49 ?_)
  go_loopw [5] (fun i wr => ∃ n : Nat, n ≤ 256 ∧ i = .int .i64 n ∧ wr.heap[w.heap.size + 1]? = some (.cells (tabTo n) 49 (0, 0)) ∧ wr.heap[w.heap.size]? = some (.cells zeros256 49 (0, 0)) ∧ Below w.heap.size w wr)
    (fun i _ => 256 - (intOf i).toNat)
  case atStart =>
    refine ⟨0, by omega, rfl, ?_, ?_, ((Below.refl _ _).alloc (Nat.le_refl _) _).alloc (by simp) _⟩
    · rw [← zeros256_tab]; exact heap_alloc2_new _ _ _
    · exact heap_alloc2_old _ _ _
  case round =>
    obtain ⟨n, hn, rfl, hb1, hb0, hbel⟩ := hrel
    have HB1 := Lib.hid hb1
    have HB0 := Lib.hid hb0
    clear hb1 hb0
    by_cases hlt : n < 256
    · go_wp2
      go_loop [3, 10] (fun c k => ∃ j : Nat, j ≤ 8 ∧ k = .int .i64 j ∧ c = .int .u32 ((Crc.steps j (BitVec.ofNat 32 n)).toNat : Int)) (fun _ k => 8 - (intOf k).toNat)
      case atStart =>
        refine ⟨0, by omega, rfl, ?_⟩
        simp [Crc.steps]; omega
      case round =>
        obtain ⟨j, hj, rfl, rfl⟩ := hrel
        by_cases hj8 : j < 8
        · have hs := Crc.steps_succ' j (BitVec.ofNat 32 n)
          generalize Crc.steps j (BitVec.ofNat 32 n) = x at hs ⊢
          have HS := Lib.hid hs
          clear hs
          have H0 : 0 ≤ (x.toNat : Int) := by omega
          have H1 : (x.toNat : Int) ≤ 4294967295 := by have := x.isLt; omega
          go_wp2
          · exact ⟨⟨j + 1, by omega, by go_num, by rw [HS.out, step_odd x (by assumption)]⟩, by simp [intOf]; omega⟩
          · exact ⟨⟨j + 1, by omega, by go_num, by rw [HS.out, step_even x (by assumption)]⟩, by simp [intOf]; omega⟩
        · have e8 : j = 8 := by omega
          subst e8
          have HT : Hid (((Crc.steps 8 (BitVec.ofNat 32 n)).toNat : Int) = ((tabAt n).toNat : Int)) := rfl
          generalize ((Crc.steps 8 (BitVec.ofNat 32 n)).toNat : Int) = y at HT ⊢
          have hc1 : wr.cell? ⟨w.heap.size + 1, n, none⟩ = some (.int .u32 0) := by
            rw [cell_of_row wr _ n _ _ _ HB1.out, tabTo_get n n hlt, if_neg (by omega)]
          have hf1 : wr.frozen? ⟨w.heap.size + 1, n, none⟩ = false := frozen_of_row wr _ n _ _ HB1.out
          go_wp2
          refine ⟨⟨n + 1, by omega, by go_num, ?_, ?_, hbel.setCell (by simp) _⟩, by simp [intOf]; omega⟩
          · rw [heap_setCell_same wr _ n _ _ _ HB1.out, HT.out, tabTo_set]
          · rw [heap_setCell_other wr _ _ _ (by simp)]; exact HB0.out
    · have e256 : n = 256 := by omega
      subst e256
      have h1 : ∀ u ∈ (tabTo 256).toList, u.oneCell' = true := by
        intro u hu
        simp only [tabTo, List.mem_map] at hu
        obtain ⟨_, _, rfl⟩ := hu
        rfl
      have hz : zeros256.size = (tabTo 256).size := by rw [zeros256_tab, tabTo_size, tabTo_size]
      have hsz : ∀ w : World, (sizeOf 49).run Try.prog w = .ok (tabTo 256).size w := fun w => by rw [tabTo_size]; exact size49 w
      have hi : (Try.prog.info? 49).map (·.size) = some (tabTo 256).size := by rw [tabTo_size]; exact info49
      generalize htb : tabTo 256 = tb at h1 hz hsz hi HB1
      have HTB := Lib.hid htb
      clear htb
      go_wp2_with (first | (refine wpList_load_row rfl 49 _ rfl _ rfl _ _ _ _ HB1.out under49 rfl hi ?_) | (refine wpList_store_row rfl rfl rfl rfl HB0.out hsz hz h1 ?_; intro w2 hw2 hk2 _))
      refine bodyPost_ret (v := .agg tb) ?_ rfl ⟨by rw [HTB.out], hbel.trans (hk2.belowB hbel.size fun k hk e => by omega)⟩
      exact results_cell_row rfl _ _ _ _ _ _ _ rfl hw2 under49 rfl hi

/-- What the table's value is: its size, and that it may be stored. -/
theorem tab_facts : (zeros256.size = (tabTo 256).size) ∧ (∀ w : World, (sizeOf 49).run Try.prog w = .ok (tabTo 256).size w) ∧ ((Try.prog.info? 49).map (·.size) = some (tabTo 256).size) ∧ ∀ u ∈ (tabTo 256).toList, u.oneCell' = true := by
  refine ⟨by rw [zeros256_tab, tabTo_size, tabTo_size], fun w => by rw [tabTo_size]; exact size49 w, by rw [tabTo_size]; exact info49, fun u hu => ?_⟩
  simp only [tabTo, List.mem_map] at hu
  obtain ⟨_, _, rfl⟩ := hu
  rfl

set_option maxRecDepth 100000 in
theorem table_any (w : World) :
    Calls Try.prog 22 #[] w fun e w' => e = .returned (.agg (tabTo 256)) ∧ Below w.heap.size w w' := by
  obtain ⟨hz, hsz, hi, h1⟩ := tab_facts
  have hbd := build_any
  generalize htb : tabTo 256 = tb at *
  have HTB := Lib.hid htb
  clear htb
  have HBD := Lib.hid hbd
  clear hbd
  go_enter Try.func22, Try.ntmps22
  go_wp2_with (refine wpList_alloc_any rfl rfl zero49 ?_)
  refine (HBD.out _).mono ?_
  rintro e w1 ⟨rfl, hb1⟩
  have hblk : w1.heap[w.heap.size]? = some (.cells zeros256 49 (0, 0)) := (hb1.block _ (by simp)).trans (heap_alloc_new _ _)
  go_wp2_with (refine wpList_store_row rfl rfl rfl rfl hblk hsz hz h1 ?_; intro w2 hw2 hk2 _)
  refine bodyPost_ret (v := .agg tb) ?_ rfl ⟨rfl, ?_⟩
  · exact results_cell_row rfl _ _ _ _ _ _ _ rfl hw2 under49 rfl hi
  · have hb0 : Below w.heap.size w w1 := (((Below.refl _ w).alloc (Nat.le_refl _) (.cells zeros256 49))).trans (hb1.mono (by simp))
    exact hb0.trans (hk2.belowB hb0.size fun k hk e => by omega)


/-- A byte more. -/
def step1 (c : BitVec 32) (x : UInt8) : BitVec 32 := Crc.byteStep c x.toBitVec
theorem run_bv (c : BitVec 32) (l : List UInt8) : l.foldl step1 c = Crc.run c (Fr.bv l) := by
  unfold Crc.run Fr.bv; rw [List.foldl_map]; rfl
theorem step1_table (c : BitVec 32) (x : UInt8) :
    bits .xor .u32 ((tabAt ((c.setWidth 8 ^^^ x.toBitVec).toNat)).toNat : Int) ((c >>> 8).toNat : Int) = ((step1 c x).toNat : Int) := by
  rw [bv_xor32]
  unfold step1
  rw [Crc.byte_table]
  unfold tabAt
  have e : ∀ y : BitVec 8, BitVec.ofNat 32 y.toNat = y.setWidth 32 := fun y => by
    apply BitVec.eq_of_toNat_eq; simp
  rw [e]
theorem tab_index (w : World) (i : Nat) (h : i < 256) : (Instr.index 49 (.agg (tabTo 256)) (.int .u8 i)).run Try.prog w = .ok (.int .u32 ((tabAt i).toNat : Int)) w := by
  have ha : ∀ w : World, (isAgg 24).run Try.prog w = .ok false w := fun w => by kernel_rfl
  have hsz : ∀ w : World, (sizeOf 24).run Try.prog w = .ok 1 w := fun w => by kernel_rfl
  have hg := tabTo_get 256 i h
  rw [if_pos h] at hg
  have h0 : 0 ≤ (i : Int) ∧ (i : Int) < 256 := by omega
  simp [Instr.index, asIntOf, run_underlying under49, hsz, part, ha, hg, h]

set_option maxRecDepth 100000 in
set_option maxHeartbeats 400000 in
theorem more_any (c0 : BitVec 32) (v : Value) (n : Nat) (l : List UInt8) (w : World) (h : Rd w 1 v n (bvals l)) :
    Calls Try.prog 14 #[.int .u32 (c0.toNat : Int), v] w fun e w' => e = .returned (.int .u32 ((Crc.more c0 (Fr.bv l)).toNat : Int)) ∧ Below w.heap.size w w' := by
  obtain ⟨hl, ⟨a, c, rfl, rfl⟩ | ⟨b, off, cap, rfl, hn, hle, hm, hc⟩⟩ := h
  · have : l = [] := by simpa [bvals] using hl
    subst this
    go_enter Try.func14, Try.ntmps14
    go_wp2
    refine wp_loop_once ?_
    go_wp2
    go_ret
    refine ⟨?_, Below.refl _ _⟩
    rw [bv_not32, bv_not32]
    rfl
  · rw [bvals_length, Nat.mul_one] at hl
    subst hl
    unfold maxLen at hm
    have HC := Lib.hid hc
    clear hc
    go_enter Try.func14, Try.ntmps14
    go_wp2
    go_loopw [5, 12] (fun cv i wr => ∃ k : Nat, k ≤ l.length ∧ i = .int .i64 k ∧ cv = .int .u32 (((l.take k).foldl step1 (~~~ c0)).toNat : Int) ∧ Below w.heap.size w wr) (fun _ i _ => l.length - (intOf i).toNat)
    case atStart => exact ⟨0, Nat.zero_le _, rfl, by rw [bv_not32]; rfl, Below.refl _ _⟩
    case round =>
      obtain ⟨k, hk, rfl, rfl, hbel⟩ := hrel
      by_cases hlt : k < l.length
      · have hcell : wr.cell? ⟨b, off + k, none⟩ = some (.int .u8 ((l[k]).toNat : Int)) := by
          have h1 := HC.out k _ (bvals_get l k hlt)
          rw [hbel.cell (p := ⟨b, off + k, none⟩) (cell_lt h1)]; exact h1
        have hs : (l.take (k + 1)).foldl step1 (~~~ c0) = step1 ((l.take k).foldl step1 (~~~ c0)) l[k] := by
          rw [List.take_succ_eq_append_getElem hlt, List.foldl_append]; rfl
        generalize (l.take k).foldl step1 (~~~ c0) = x at hs ⊢
        generalize l[k] = y at hs hcell ⊢
        have HS := Lib.hid hs
        clear hs
        have hx8 : (x.toNat : Int) % (256 : Int) = ((x.setWidth 8).toNat : Int) := by have := bv_low8 x; rwa [IntKind.wrap_u8'] at this
        have hxy : bits .xor .u8 ((x.setWidth 8).toNat : Int) (y.toNat : Int) = ((x.setWidth 8 ^^^ y.toBitVec).toNat : Int) := bv_xor8 _ y.toBitVec
        go_wp2_with fail
        refine (table_any _).mono ?_
        rintro e w1 ⟨rfl, hb1⟩
        have hsh : (x.toNat : Int) / (256 : Int) = ((x >>> 8).toNat : Int) := by have := bv_shr32 x 8; simpa using this
        have hst := step1_table x y
        have hlt8 : ((x.setWidth 8 ^^^ y.toBitVec).toNat) < 256 := (x.setWidth 8 ^^^ y.toBitVec).isLt
        have hidx := fun w => tab_index w _ hlt8
        generalize htb : tabTo 256 = tb at hidx ⊢
        have HTB := Lib.hid htb
        clear htb
        generalize (x.setWidth 8 ^^^ y.toBitVec).toNat = z at hidx hxy hst hlt8
        generalize (x.setWidth 8).toNat = q at hx8 hxy
        generalize (x >>> 8).toNat = t at hsh hst
        go_wp2
        exact ⟨⟨k + 1, by omega, by go_num, by rw [HS.out], hbel.trans (hb1.mono hbel.size)⟩, by simp [intOf]; omega⟩
      · have hkl : k = l.length := by omega
        subst hkl
        rw [List.take_length]
        have hfin : ((~~~ (l.foldl step1 (~~~ c0))).toNat : Int) = ((Crc.more c0 (Fr.bv l)).toNat : Int) := by rw [run_bv]; rfl
        have HF := Lib.hid hfin
        clear hfin
        generalize l.foldl step1 (~~~ c0) = x at HF ⊢
        go_wp2
        go_ret
        refine ⟨?_, hbel⟩
        rw [bv_not32, HF.out]; rfl


theorem sum_any (v : Value) (n : Nat) (l : List UInt8) (w : World) (h : Rd w 1 v n (bvals l)) :
    Calls Try.prog 12 #[v] w fun e w' => e = .returned (.int .u32 ((Fr.crc l).toNat : Int)) ∧ Below w.heap.size w w' := by
  obtain ⟨a, c, rfl⟩ := h.len
  have hm := more_any 0#32 _ n l w h
  have hc : Crc.more 0#32 (Fr.bv l) = Fr.crc l := rfl
  rw [hc] at hm
  have HM := Lib.hid hm
  clear hm
  go_enter Try.func12, Try.ntmps12
  go_wp2_with fail
  refine HM.out.mono ?_
  rintro e w1 ⟨rfl, hb1⟩
  go_wp2
  go_ret
  exact ⟨rfl, hb1⟩


theorem bits_u8_one (y : BitVec 8) : (bits .and .u8 (y.toNat : Int) 1 == 1) = y.getLsbD 0 := by
  have h := u8_and_nat y.toNat 1 y.isLt (by omega)
  have e : ((1 : Nat) : Int) = 1 := rfl
  rw [e] at h
  rw [h]
  have h2 : y.toNat &&& 1 = y.toNat % 2 := Nat.and_one_is_mod _
  rw [h2]
  have h3 : y.getLsbD 0 = decide (y.toNat % 2 = 1) := by simp [BitVec.getLsbD, Nat.testBit_zero]
  rw [h3]
  rcases Nat.mod_two_eq_zero_or_one y.toNat with h4 | h4 <;> rw [h4] <;> decide
theorem bits_u8_at (y : UInt8) (j : Nat) : (bits .and .u8 ((y.toNat : Int) / (2 : Int) ^ j) 1 == 1) = y.toBitVec.getLsbD j := by
  have h : (y.toNat : Int) / (2 : Int) ^ j = ((y.toBitVec >>> j).toNat : Int) := by
    rw [BitVec.toNat_ushiftRight, Nat.shiftRight_eq_div_pow]; simp
  rw [h, bits_u8_one, BitVec.getLsbD_ushiftRight, Nat.add_zero]
theorem bits_u32_one (z : BitVec 32) : (bits .and .u32 (z.toNat : Int) 1 == 1) = z.getLsbD 0 := by
  rw [low_bit]; cases z.getLsbD 0 <;> decide
theorem bitStep_odd (z : BitVec 32) (b : Bool) (h : (z.getLsbD 0 ^^ b) = true) : bits .xor .u32 ((z.toNat : Int) / 2) 3988292384 = ((Crc.bitStep z b).toNat : Int) := by
  have e : (3988292384 : Int) = ((0xedb88320#32 : BitVec 32).toNat : Int) := by decide
  rw [bv_half, e, bv_xor32]
  unfold Crc.bitStep Crc.step
  rw [BitVec.ushiftRight_xor_distrib, BitVec.getLsbD_xor]
  have e1 : (if b = true then 1#32 else 0#32 : BitVec 32) >>> 1 = 0#32 := by cases b <;> decide
  have e2 : (if b = true then 1#32 else 0#32 : BitVec 32).getLsbD 0 = b := by cases b <;> decide
  rw [e1, e2, h]; simp
theorem bitStep_even (z : BitVec 32) (b : Bool) (h : (z.getLsbD 0 ^^ b) = false) : (z.toNat : Int) / (2 : Int) = ((Crc.bitStep z b).toNat : Int) := by
  rw [bv_half]
  unfold Crc.bitStep Crc.step
  rw [BitVec.ushiftRight_xor_distrib, BitVec.getLsbD_xor]
  have e1 : (if b = true then 1#32 else 0#32 : BitVec 32) >>> 1 = 0#32 := by cases b <;> decide
  have e2 : (if b = true then 1#32 else 0#32 : BitVec 32).getLsbD 0 = b := by cases b <;> decide
  rw [e1, e2, h]; simp

theorem way_tt (y : UInt8) (j : Nat) (z : BitVec 32) (h1 : (bits .and .u8 ((y.toNat : Int) / (2 : Int) ^ j) 1 == 1) = true) (h2 : (!(bits .and .u32 (z.toNat : Int) 1 == 1)) = true) : (z.getLsbD 0 ^^ y.toBitVec.getLsbD j) = true := by
  rw [bits_u8_at] at h1; rw [bits_u32_one] at h2; rw [h1]; revert h2; cases z.getLsbD 0 <;> decide
theorem way_tf (y : UInt8) (j : Nat) (z : BitVec 32) (h1 : (bits .and .u8 ((y.toNat : Int) / (2 : Int) ^ j) 1 == 1) = true) (h2 : (!(bits .and .u32 (z.toNat : Int) 1 == 1)) = false) : (z.getLsbD 0 ^^ y.toBitVec.getLsbD j) = false := by
  rw [bits_u8_at] at h1; rw [bits_u32_one] at h2; rw [h1]; revert h2; cases z.getLsbD 0 <;> decide
theorem way_ft (y : UInt8) (j : Nat) (z : BitVec 32) (h1 : (bits .and .u8 ((y.toNat : Int) / (2 : Int) ^ j) 1 == 1) = false) (h2 : (bits .and .u32 (z.toNat : Int) 1 == 1) = true) : (z.getLsbD 0 ^^ y.toBitVec.getLsbD j) = true := by
  rw [bits_u8_at] at h1; rw [bits_u32_one] at h2; rw [h1]; revert h2; cases z.getLsbD 0 <;> decide
theorem way_ff (y : UInt8) (j : Nat) (z : BitVec 32) (h1 : (bits .and .u8 ((y.toNat : Int) / (2 : Int) ^ j) 1 == 1) = false) (h2 : (bits .and .u32 (z.toNat : Int) 1 == 1) = false) : (z.getLsbD 0 ^^ y.toBitVec.getLsbD j) = false := by
  rw [bits_u8_at] at h1; rw [bits_u32_one] at h2; rw [h1]; revert h2; cases z.getLsbD 0 <;> decide

set_option maxRecDepth 100000 in
set_option maxHeartbeats 400000 in
/-- The reference's sum, bit by bit. -/
theorem refCRC_any (v : Value) (n : Nat) (l : List UInt8) (w : World) (h : Rd w 1 v n (bvals l)) :
    Calls Try.prog 13 #[v] w fun e w' => e = .returned (.int .u32 ((Fr.crc l).toNat : Int)) ∧ Below w.heap.size w w' := by
  obtain ⟨hl, ⟨a, c, rfl, rfl⟩ | ⟨b, off, cap, rfl, hn, hle, hm, hc⟩⟩ := h
  · have : l = [] := by simpa [bvals] using hl
    subst this
    go_enter Try.func13, Try.ntmps13
    go_wp2
    refine wp_loop_once ?_
    go_wp2
    go_ret
    exact ⟨rfl, Below.refl _ _⟩
  · rw [bvals_length, Nat.mul_one] at hl
    subst hl
    unfold maxLen at hm
    have HC := Lib.hid hc
    clear hc
    go_enter Try.func13, Try.ntmps13
    go_wp2
    go_loop [3, 4] (fun cv i => ∃ k : Nat, k ≤ l.length ∧ i = .int .i64 k ∧ cv = .int .u32 (((l.take k).foldl step1 (~~~ 0#32)).toNat : Int)) (fun _ i => l.length - (intOf i).toNat)
    case atStart => exact ⟨0, Nat.zero_le _, rfl, rfl⟩
    case round =>
      obtain ⟨k, hk, rfl, rfl⟩ := hrel
      by_cases hlt : k < l.length
      · have hcell := HC.out k _ (bvals_get l k hlt)
        have hs : (l.take (k + 1)).foldl step1 (~~~ 0#32) = step1 ((l.take k).foldl step1 (~~~ 0#32)) l[k] := by
          rw [List.take_succ_eq_append_getElem hlt, List.foldl_append]; rfl
        generalize (l.take k).foldl step1 (~~~ 0#32) = x at hs ⊢
        generalize l[k] = y at hs hcell
        have hb : step1 x y = ((List.range 8).map fun i => y.toBitVec.getLsbD i).foldl Crc.bitStep x := (Crc.fold_byte x y.toBitVec).symm
        rw [hb] at hs
        have HS := Lib.hid hs
        clear hs hb
        go_wp2
        go_loop [3, 5] (fun cv i => ∃ j : Nat, j ≤ 8 ∧ i = .int .i64 j ∧ cv = .int .u32 ((((List.range j).map fun i => y.toBitVec.getLsbD i).foldl Crc.bitStep x).toNat : Int)) (fun _ i => 8 - (intOf i).toNat)
        case atStart => exact ⟨0, by omega, rfl, rfl⟩
        case round =>
          obtain ⟨j, hj, rfl, rfl⟩ := hrel
          by_cases hj8 : j < 8
          · have ht : ((List.range (j + 1)).map fun i => y.toBitVec.getLsbD i).foldl Crc.bitStep x = Crc.bitStep (((List.range j).map fun i => y.toBitVec.getLsbD i).foldl Crc.bitStep x) (y.toBitVec.getLsbD j) := by
              rw [List.range_succ, List.map_append, List.foldl_append]; rfl
            generalize ((List.range j).map fun i => y.toBitVec.getLsbD i).foldl Crc.bitStep x = z at ht ⊢
            have HT := Lib.hid ht
            clear ht
            have H0 : 0 ≤ (z.toNat : Int) := by omega
            have H1 : (z.toNat : Int) ≤ 4294967295 := by have := z.isLt; omega
            go_wp2
            all_goals
              refine ⟨⟨j + 1, by omega, by go_num, ?_⟩, by simp [intOf]; omega⟩
              rw [HT.out]
            · rw [bitStep_odd z _ (way_tt y j z (by assumption) (by assumption))]
            · rw [bitStep_even z _ (way_tf y j z (by assumption) (by assumption))]
            · rw [bitStep_odd z _ (way_ft y j z (by assumption) (by assumption))]
            · rw [bitStep_even z _ (way_ff y j z (by assumption) (by assumption))]
          · have e8 : j = 8 := by omega
            subst e8
            have HS2 := Lib.hid HS.out.symm
            generalize ((List.range 8).map fun i => y.toBitVec.getLsbD i).foldl Crc.bitStep x = z at HS2 ⊢
            go_wp2
            exact ⟨⟨k + 1, by omega, by go_num, by rw [HS2.out]⟩, by simp [intOf]; omega⟩
      · have hkl : k = l.length := by omega
        subst hkl
        rw [List.take_length]
        have hfin : ((~~~ (l.foldl step1 (~~~ 0#32))).toNat : Int) = ((Fr.crc l).toNat : Int) := by rw [run_bv]; rfl
        have HF := Lib.hid hfin
        clear hfin
        generalize l.foldl step1 (~~~ 0#32) = x at HF ⊢
        go_wp2
        go_ret
        refine ⟨?_, Below.refl _ _⟩
        rw [bv_not32, HF.out]; rfl

end Go.Proofs.Ytclgnginmgleaaa
