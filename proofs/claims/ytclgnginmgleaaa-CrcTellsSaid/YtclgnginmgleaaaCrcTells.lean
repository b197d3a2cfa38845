/-
  The walk of CrcTells.
-/
import Derived.Test.YtclgnginmgleaaaCrcLays
namespace Go.Proofs.Ytclgnginmgleaaa
open Go Go.RowKit Go.Sort

def turned (b : List UInt8) (k X j : Nat) : List UInt8 := (List.range b.length).map fun i => if k ≤ i ∧ i < k + j then b.getD i 0 ^^^ UInt8.ofNat (X / 2 ^ (8 * (i - k))) else b.getD i 0
theorem turned_length (b : List UInt8) (k X j : Nat) : (turned b k X j).length = b.length := by simp [turned]
theorem turned_zero (b : List UInt8) (k X : Nat) : turned b k X 0 = b := by
  apply List.ext_getElem
  · simp [turned]
  · intro i h1 h2
    simp [turned, show ¬ (k ≤ i ∧ i < k) by omega, List.getD_eq_getElem?_getD, h2]
theorem turned_get (b : List UInt8) (k X j : Nat) (h : k + j < b.length) : (bvals (turned b k X j))[k + j]? = some (.int .u8 ((b.getD (k + j) 0).toNat : Int)) := by
  rw [bvals_get _ _ (by rw [turned_length]; exact h)]
  simp [turned]
theorem turned_set (b : List UInt8) (k X j : Nat) (h : k + j < b.length) : (bvals (turned b k X j)).set (k + j) (.int .u8 ((b.getD (k + j) 0 ^^^ UInt8.ofNat (X / 2 ^ (8 * j))).toNat : Int)) = bvals (turned b k X (j + 1)) := by
  apply List.ext_getElem
  · simp [bvals, turned]
  · intro i h1 h2
    rw [List.getElem_set]
    simp only [bvals, turned, List.getElem_map, List.getElem_range]
    split
    · rename_i e; subst e; simp
    · rename_i e
      by_cases hi : k ≤ i ∧ i < k + j
      · simp [hi, show i < k + (j + 1) by omega]
      · simp [hi, show ¬ (k ≤ i ∧ i < k + (j + 1)) by omega]
theorem xor_byte (x : UInt8) (n : Nat) : bits .xor .u8 (x.toNat : Int) ((n : Int) % 256) = ((x ^^^ UInt8.ofNat n).toNat : Int) := by
  have h := bv_xor8 x.toBitVec (UInt8.ofNat n).toBitVec
  have e : ((UInt8.ofNat n).toBitVec.toNat : Int) = (n : Int) % 256 := by
    rw [UInt8.toBitVec_ofNat', BitVec.toNat_ofNat]; omega
  rw [e] at h
  exact h

theorem turned_sum (b : List UInt8) (k : Nat) (t : BitVec 32) (sh : Nat) (h8 : sh ≤ 8) (ht : t ≠ 0#32) (hk : k + 5 ≤ b.length) (X : Nat) (hX : X = t.toNat * 2 ^ sh) : ¬ Fr.crc b = Fr.crc (turned b k X 5) := by
  unfold Fr.crc
  have h := Crc.sum_tells (Fr.bv (b.take k)) (Fr.bv ((b.drop k).take 5)) (Fr.bv (b.drop (k + 5))) t sh h8 ht (by simp [Fr.bv]; omega)
  have e1 : Fr.bv b = Fr.bv (b.take k) ++ Fr.bv ((b.drop k).take 5) ++ Fr.bv (b.drop (k + 5)) := by
    simp only [Fr.bv, ← List.map_append]
    congr 1
    rw [List.append_assoc, ← List.drop_drop, List.take_append_drop, List.take_append_drop]
  have e2 : Fr.bv (turned b k X 5) = Fr.bv (b.take k) ++ List.zipWith (· ^^^ ·) (Fr.bv ((b.drop k).take 5)) (Crc.five (t.setWidth 64 <<< sh)) ++ Fr.bv (b.drop (k + 5)) := by
    apply List.ext_getElem
    · simp [Fr.bv, turned, Crc.five]; omega
    · intro i h1 h2
      have hi : i < b.length := by simpa [Fr.bv, turned] using h1
      by_cases c1 : i < k
      · rw [List.getElem_append_left (by simp [Fr.bv, Crc.five]; omega), List.getElem_append_left (by simp [Fr.bv]; omega)]
        simp [Fr.bv, turned, show ¬ (k ≤ i ∧ i < k + 5) by omega, List.getD_eq_getElem?_getD, hi]
      · by_cases c2 : i < k + 5
        · rw [List.getElem_append_left (by simp [Fr.bv, Crc.five]; omega), List.getElem_append_right (by simp [Fr.bv]; omega)]
          have hm : min k b.length = k := by omega
          simp only [Fr.bv, turned, Crc.five, List.getElem_map, List.getElem_range, List.getElem_zipWith, List.getElem_take, List.getElem_drop, List.length_map, List.length_take, hm]
          have hk2 : k + (i - k) = i := by omega
          have : ((b.getD i 0).toBitVec ^^^ (UInt8.ofNat (X / 2 ^ (8 * (i - k)))).toBitVec) = b[i].toBitVec ^^^ (t.setWidth 64 <<< sh >>> (8 * (i - k))).setWidth 8 := by
            have h3 : b.getD i 0 = b[i] := by simp [List.getD_eq_getElem?_getD, hi]
            rw [h3]
            congr 1
            apply BitVec.eq_of_toNat_eq
            have hp : 2 ^ sh ≤ 2 ^ 8 := Nat.pow_le_pow_right (by omega) h8
            have hlt := t.isLt
            have hb : t.toNat * 2 ^ sh < 2 ^ 64 := by
              calc t.toNat * 2 ^ sh ≤ t.toNat * 2 ^ 8 := Nat.mul_le_mul_left _ hp
                _ < _ := by omega
            simp only [BitVec.toNat_setWidth, BitVec.toNat_ushiftRight, BitVec.toNat_shiftLeft, Nat.shiftLeft_eq, Nat.shiftRight_eq_div_pow]
            rw [Nat.mod_eq_of_lt (a := t.toNat) (by omega), Nat.mod_eq_of_lt hb, ← hX]
            simp
          simp only [hk2]
          rw [← this, if_pos (by omega)]
          rfl
        · rw [List.getElem_append_right (by simp [Fr.bv, Crc.five]; omega)]
          have hm : min k b.length = k := by omega
          have hm5 : min (min 5 (b.length - k)) 5 = 5 := by omega
          simp only [Fr.bv, turned, Crc.five, List.getElem_map, List.getElem_range, List.getElem_drop, List.length_append, List.length_map, List.length_zipWith, List.length_take, List.length_drop, List.length_range, hm, hm5]
          have hk2 : k + 5 + (i - (k + 5)) = i := by omega
          simp only [hk2]
          rw [if_neg (by omega)]
          simp [List.getD_eq_getElem?_getD, hi]
  rw [e1, e2]
  exact h

set_option maxRecDepth 100000 in
set_option maxHeartbeats 200000 in
theorem crcTells_walk (b : List UInt8) (a1 : Option Addr) (c1 : Nat) (p : Nat) (t : BitVec 32) (s : Nat) (w : World) (h1 : Rd w 1 (.slice a1 b.length c1) b.length (bvals b)) (hn : b.length ≤ 140737488351232) (hp : p < 65536) (hs : s < 256) :
    Calls Try.prog 4 #[.slice a1 b.length c1, .int .u16 p, .int .u32 (t.toNat : Int), .int .u8 s] w fun e w' => e = .returned (.bool true) ∧ Below w.heap.size w w' := by
  by_cases h5 : b.length < 5
  · have hb' : (b.length : Int) < 5 := by omega
    go_enter Try.func4, Try.ntmps4
    go_wp2_with fail
    refine (answers02 _).mono ?_
    rintro e w1 ⟨rfl, hb1⟩
    go_wp2
    go_ret
    exact ⟨rfl, hb1⟩
  have h5' : ¬ (b.length : Int) < 5 := by omega
  by_cases hbig : 5000 < b.length
  · have hb' : (5000 : Int) < (b.length : Int) := by omega
    go_enter Try.func4, Try.ntmps4
    go_wp2_with fail
    refine (answers02 _).mono ?_
    rintro e w1 ⟨rfl, hb1⟩
    go_wp2
    go_ret
    exact ⟨rfl, hb1⟩
  have hbig' : ¬ (5000 : Int) < (b.length : Int) := by omega
  by_cases ht : t = 0#32
  · subst ht
    have hz : ((0#32 : BitVec 32).toNat : Int) = 0 := rfl
    rw [hz]
    go_enter Try.func4, Try.ntmps4
    go_wp2_with fail
    refine (answers02 _).mono ?_
    rintro e w1 ⟨rfl, hb1⟩
    go_wp2
    go_ret
    exact ⟨rfl, hb1⟩
  have ht' : ¬ (t.toNat : Int) = 0 := by
    intro h; apply ht; apply BitVec.eq_of_toNat_eq; simpa using h
  obtain ⟨tn, htn⟩ : ∃ n, t.toNat = n := ⟨_, rfl⟩
  rw [htn] at ht' ⊢
  have htb : ((tn : Int) == 0) = false := by simpa using ht'
  have sl0 := Sl.empty (w.alloc (.cells #[] 5)) 1 (some ⟨w.heap.size, 0, none⟩)
  have hbel0 : Below w.heap.size w (w.alloc (.cells #[] 5)) := (Below.refl _ _).alloc (Nat.le_refl _) _
  have sr1 := (h1.below hbel0).srcB
  have bd1 : (3 * (0 + b.length) + 1024) * (1 + 1) ≤ 281474976710656 := by omega
  obtain ⟨k, hk, hkl⟩ : ∃ k : Nat, (p : Int).tmod ((b.length : Int) - (4 : Int)) = (k : Int) ∧ k < b.length - 4 := by
    refine ⟨p % (b.length - 4), ?_, Nat.mod_lt _ (by omega)⟩
    rw [show (b.length : Int) - 4 = ((b.length - 4 : Nat) : Int) by omega]; rfl
  obtain ⟨sh, hsh, hs8⟩ : ∃ sh : Nat, (s : Int) % (8 : Int) = (sh : Int) ∧ sh < 8 := ⟨s % 8, by omega, by omega⟩
  have hz : ¬ ((b.length : Int) - (4 : Int) = 0) := by omega
  have hsI : (0 : Int) ≤ (s : Int) := by omega
  have hpI : (0 : Int) ≤ (p : Int) := by omega
  have hkI : (0 : Int) ≤ (k : Int) := by omega
  have hshI : (0 : Int) ≤ (sh : Int) := by omega
  have hsh8 : (sh : Int) < 8 := by omega
  go_enter Try.func4, Try.ntmps4
  go_wp2_with (first | (at_builtin; go_must (refine wpList_append_sl rfl _ _ _ _ 5 rfl under22 info5 rfl Nat.zero_lt_one rfl rfl sl0 sr1 bd1 ?_; intro v1 w1 blk1 sl1 fr1 kp1; have bel1 := Kept.toBelow hbel0 kp1 (fun b hb => by cases hb); clear sl0 sr1)) | fail)
  rw [List.nil_append, Nat.zero_add] at sl1
  have fr := fresh_next (fun b hb => by cases hb) (Nat.le_refl _) (fr1.imp id fun ⟨b, h1, h2⟩ => ⟨b, h1, Nat.le_trans hbel0.size h2⟩)
  have hX : IntKind.u64.wrap ((tn : Int) * 2 ^ sh) = ((tn * 2 ^ sh : Nat) : Int) := by
    have h2 : tn * 2 ^ sh < 18446744073709551616 := by
      have a1 : 2 ^ sh ≤ 2 ^ 8 := Nat.pow_le_pow_right (by omega) (by omega)
      have a2 : tn < 4294967296 := by rw [← htn]; exact t.isLt
      calc tn * 2 ^ sh ≤ tn * 2 ^ 8 := Nat.mul_le_mul_left _ a1
        _ < _ := by omega
    rw [show ∀ n : Int, IntKind.u64.wrap n = n % 18446744073709551616 from fun n => by simp [IntKind.wrap, IntKind.bits, IntKind.signed]]
    have : ((tn : Int) * 2 ^ sh) = ((tn * 2 ^ sh : Nat) : Int) := by push_cast; rfl
    rw [this]; omega
  rw [hX]
  clear hX
  obtain ⟨vb, vo, vc, rfl, rfl, hvc, hvm⟩ : ∃ vb vo vc, blk1 = some vb ∧ v1 = .slice (some ⟨vb, vo, none⟩) b.length vc ∧ b.length ≤ vc ∧ vc ≤ maxLen := by
    obtain ⟨_, ⟨_, _, h0, _⟩ | ⟨vb, vo, vc, h0, hv, _, h2, h3, _⟩⟩ := sl1
    · omega
    · exact ⟨vb, vo, vc, h0, hv, h2, h3⟩
  have hvb := fr vb rfl
  clear fr fr1 kp1 hbel0 bd1
  unfold maxLen at hvm
  have sl1' : Sl w1 1 (.slice (some ⟨vb, vo, none⟩) b.length vc) (some vb) b.length (bvals (turned b k (tn * 2 ^ sh) 0)) := by rw [turned_zero]; exact sl1
  clear sl1
  generalize hX : tn * 2 ^ sh = X at sl1' ⊢
  go_loopw [12] (fun i wr => ∃ j : Nat, j ≤ 5 ∧ i = .int .i64 j ∧ Below w.heap.size w wr ∧ Sl wr 1 (.slice (some ⟨vb, vo, none⟩) b.length vc) (some vb) b.length (bvals (turned b k X j))) (fun i _ => 5 - (intOf i).toNat)
  case atStart => exact ⟨0, by omega, rfl, bel1, sl1'⟩
  case round =>
    obtain ⟨j, hj, rfl, bel, sl⟩ := hrel
    by_cases hlt : j < 5
    · have ht := sl
      obtain ⟨_, ⟨_, h0, _⟩ | ⟨b', off', cap', hb', hv', _, _, _, hcel, hown⟩⟩ := ht
      · cases h0
      simp only [Value.slice.injEq, Option.some.injEq, Addr.mk.injEq, and_true, true_and] at hv' hb'
      obtain ⟨⟨rfl, rfl⟩, rfl⟩ := hv'
      have cl := hcel (k + j) (.int .u8 ((b.getD (k + j) 0).toNat : Int)) (turned_get b k X j (by omega))
      have hfz := (hown (k + j) (by omega)).2
      have slk := sl.store (k + j) (.int .u8 ((b.getD (k + j) 0 ^^^ UInt8.ofNat (X / 2 ^ (8 * j))).toNat : Int)) (by rw [bvals_length, turned_length]; omega)
      rw [turned_set b k X j (by omega)] at slk
      have hx := xor_byte (b.getD (k + j) 0) (X / 2 ^ (8 * j))
      generalize b.getD (k + j) 0 ^^^ UInt8.ofNat (X / 2 ^ (8 * j)) = xx at hx slk
      generalize b.getD (k + j) 0 = xa at cl hx
      have SLK := Lib.hid slk
      clear slk sl hcel hown
      have ia : (k : Int) + (j : Int) < (b.length : Int) := by omega
      obtain ⟨vo', hvo⟩ : ∃ vo', vo' = vo + (k + j) := ⟨_, rfl⟩
      have i0 : (0 : Int) ≤ (k : Int) + (j : Int) := by omega
      obtain rfl | rfl | rfl | rfl | rfl : j = 0 ∨ j = 1 ∨ j = 2 ∨ j = 3 ∨ j = 4 := by omega
      · rw [show ((X / 2 ^ (8 * 0) : Nat) : Int) = (X : Int) by show ((X / 1 : Nat) : Int) = _; omega] at hx
        rw [Nat.add_zero] at cl hfz SLK
        have ia' : (k : Int) < (b.length : Int) := by omega
        go_wp2
        exact ⟨⟨1, by omega, rfl, bel.setCell hvb _, SLK.out⟩, by simp [intOf]⟩
      · rw [show ((X / 2 ^ (8 * 1) : Nat) : Int) = (X : Int) / 256 by show ((X / 256 : Nat) : Int) = _; omega] at hx
        go_wp2
        exact ⟨⟨2, by omega, rfl, bel.setCell hvb _, SLK.out⟩, by simp [intOf]⟩
      · rw [show ((X / 2 ^ (8 * 2) : Nat) : Int) = (X : Int) / 65536 by show ((X / 65536 : Nat) : Int) = _; omega] at hx
        go_wp2
        exact ⟨⟨3, by omega, rfl, bel.setCell hvb _, SLK.out⟩, by simp [intOf]⟩
      · rw [show ((X / 2 ^ (8 * 3) : Nat) : Int) = (X : Int) / 16777216 by show ((X / 16777216 : Nat) : Int) = _; omega] at hx
        go_wp2
        exact ⟨⟨4, by omega, rfl, bel.setCell hvb _, SLK.out⟩, by simp [intOf]⟩
      · rw [show ((X / 2 ^ (8 * 4) : Nat) : Int) = (X : Int) / 4294967296 by show ((X / 4294967296 : Nat) : Int) = _; omega] at hx
        go_wp2
        exact ⟨⟨5, by omega, rfl, bel.setCell hvb _, SLK.out⟩, by simp [intOf]⟩
    · obtain rfl : j = 5 := by omega
      have rb := h1.below bel
      have rc := sl.rd
      rw [show b.length = (turned b k X 5).length from (turned_length _ _ _ _).symm] at rc
      have hne : ¬ Fr.crc b = Fr.crc (turned b k X 5) := turned_sum b k t sh (by omega) ht (by omega) X (by rw [← hX, ← htn])
      clear sl
      go_wp2_with fail
      refine (answers02 _).mono ?_
      rintro e w2 ⟨rfl, hb2⟩
      go_wp2_with fail
      refine (sum_any _ _ _ _ (rb.below hb2)).mono ?_
      rintro e w3 ⟨rfl, hb3⟩
      go_wp2_with fail
      rw [turned_length] at rc
      refine (sum_any _ _ _ _ ((rc.below hb2).below hb3)).mono ?_
      rintro e w4 ⟨rfl, hb4⟩
      have hnb : (((Fr.crc b).toNat : Int) != ((Fr.crc (turned b k X 5)).toNat : Int)) = true := by
        rw [bne_iff_ne]
        intro h
        exact hne (BitVec.eq_of_toNat_eq (by omega))
      generalize Fr.crc b = q1 at hnb
      generalize Fr.crc (turned b k X 5) = q2 at hnb
      go_wp2
      go_ret
      have q1 := bel.trans (hb2.mono bel.size)
      have q2 := q1.trans (hb3.mono q1.size)
      exact ⟨rfl, q2.trans (hb4.mono q2.size)⟩
end Go.Proofs.Ytclgnginmgleaaa
