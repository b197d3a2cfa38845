/-
  The walk of FrameNone.
-/
import Derived.Test.YtclgnginmgleaaaFrameLaws
namespace Go.Proofs.Ytclgnginmgleaaa
open Go Go.RowKit Go.Sort

set_option maxRecDepth 100000 in
theorem feed_nil (a : Option Addr) (n c : Nat) (w : World) : Calls Try.prog 18 #[.pointer none, .slice a n c] w fun e w' => e = .returned (.tuple #[]) ∧ w' = w := by
  go_enter Try.func18, Try.ntmps18
  go_wp2
  exact ⟨rfl, _, results_none rfl _ _ _, rfl, rfl⟩

set_option maxRecDepth 100000 in
theorem next_nil (w : World) : Calls Try.prog 20 #[.pointer none] w fun e w' => e = .returned (.tuple #[.slice none 0 0, .bool false]) ∧ w' = w := by
  go_enter Try.func20, Try.ntmps20
  go_wp2
  go_ret2
  exact ⟨rfl, rfl⟩

set_option maxRecDepth 100000 in
theorem held_nil (w : World) : Calls Try.prog 21 #[.pointer none] w fun e w' => e = .returned (.int .i64 0) ∧ w' = w := by
  go_enter Try.func21, Try.ntmps21
  go_wp2
  go_ret
  exact ⟨rfl, rfl⟩

theorem next_whole (b : List UInt8) (h1 : 1 ≤ b.length) (h2 : b.length ≤ 64) : (Fr.next (Fr.frameOf b)).1 = some b := by
  have h := Fr.look_frame b [] h1 h2
  rw [List.append_nil] at h
  rw [Fr.next_take _ _ _ h]

set_option maxRecDepth 100000 in
set_option maxHeartbeats 400000 in
theorem frameNone_walk (b : List UInt8) (a1 : Option Addr) (c1 : Nat) (w : World) (h1 : Rd w 1 (.slice a1 b.length c1) b.length (bvals b)) :
    Calls Try.prog 10 #[.slice a1 b.length c1] w fun e w' => e = .returned (.bool true) ∧ Below w.heap.size w w' := by
  by_cases c1' : b.length < 1
  · have c1'' : (b.length : Int) < 1 := by omega
    go_enter Try.func10, Try.ntmps10
    go_wp2_with (first | (go_at_call 15; refine (answers03 _).mono ?_; rintro e w3 ⟨rfl, hb3⟩) | fail)
    go_ret
    exact ⟨rfl, hb3⟩
  have d1 : ¬ (b.length : Int) < 1 := by omega
  by_cases c2' : 64 < b.length
  · have c2'' : (64 : Int) < (b.length : Int) := by omega
    go_enter Try.func10, Try.ntmps10
    go_wp2_with (first | (go_at_call 15; refine (answers03 _).mono ?_; rintro e w3 ⟨rfl, hb3⟩) | fail)
    go_ret
    exact ⟨rfl, hb3⟩
  have d2 : ¬ (64 : Int) < (b.length : Int) := by omega
  have hk64 : b.length ≤ 64 := by omega
  obtain ⟨N, hN⟩ : ∃ N, N = b.length + 6 := ⟨_, rfl⟩
  have hFl : (Fr.frameOf b).length = N := by rw [Fr.frameOf_length, hN]
  have i3 : (N : Int) ≤ 70 := by omega
  have HNX := Lib.hid (next_whole b (by omega) hk64)
  go_enter Try.func10, Try.ntmps10
  go_wp2_with (first | (go_at_call 18; refine (feed_nil _ _ _ _).mono ?_; rintro e w0 ⟨rfl, h0⟩; rw [h0]; clear h0 w0) | (go_at_call 20; refine (next_nil _).mono ?_; rintro e w0 ⟨rfl, h0⟩; rw [h0]; clear h0 w0) | fail)
  refine (refFrame_any _ _ _ _ h1 hk64).mono ?_
  rintro e w1 ⟨hb1, vf, blkf, rfl, slf, frf⟩
  rw [← hN] at slf
  have hN' := Lib.hid hN
  obtain ⟨fb, fo, fc, rfl, rfl⟩ : ∃ fb fo fc, blkf = some fb ∧ vf = .slice (some ⟨fb, fo, none⟩) N fc := by
    obtain ⟨_, ⟨_, _, h0, _⟩ | ⟨fb, fo, fc, h0, hv, _⟩⟩ := slf
    · omega
    · exact ⟨fb, fo, fc, h0, hv⟩
  have hfb := frf fb rfl
  have hfl := slf.lt Nat.zero_lt_one
  have h1s := hb1.size
  have hba : Below w1.heap.size w1 (w1.alloc (.cells #[.slice none 0 0] 40)) := (Below.refl _ _).alloc (Nat.le_refl _) _
  have sl2 := slf.below hba Nat.zero_lt_one
  have st0 := Lib.hid (Strm.new w1)
  have SL2 := Lib.hid sl2
  have HBA := Lib.hid hba
  clear sl2 slf hk64 hN hba
  generalize Fr.frameOf b = F at *
  go_wp2_with fail
  refine (feed_any _ _ _ _ _ _ _ st0.out SL2.out.rd (by simp; omega)).mono ?_
  rintro e w3 ⟨rfl, blk3, st3, fr3, kp3⟩
  rw [List.nil_append] at st3
  have hB0 := hb1.trans (HBA.out.mono h1s)
  have k3 := hB0.trans (kp3.belowB hB0.size fun i hi h => by
    rcases h with h | h
    · omega
    · cases h)
  have sl3 := SL2.out.kept kp3 Nat.zero_lt_one (fun i hi h => by
    obtain rfl := Option.some.inj hi
    rcases h with h | h
    · omega
    · cases h)
  have hbf : blk3 ≠ some fb := by
    rcases fr3 with rfl | ⟨b', rfl, hle⟩
    · intro h; cases h
    · intro h; obtain rfl := Option.some.inj h; have := HBA.out.size; omega
  have ST3 := Lib.hid st3
  have K3 := Lib.hid k3
  have HBF := Lib.hid hbf
  clear kp3 fr3 st3 hB0 k3 hbf
  go_wp2_with fail
  go_loopw [8] (fun i wr => ∃ (j : Nat) (L : List UInt8), j ≤ N ∧ i = .int .i64 j ∧ L.length = N ∧ Sl wr 1 (.slice (some ⟨fb, fo, none⟩) N fc) (some fb) N (bvals L) ∧ Kept (fun i => i = fb) w3 wr) (fun i _ => N - (intOf i).toNat)
  case atStart => exact ⟨0, F, by omega, rfl, hFl, sl3, Kept.refl _ _⟩
  case round =>
    obtain ⟨j, L, hj, rfl, hL, sl, kp⟩ := hrel
    by_cases hlt : j < N
    · have cf : wr.cell? ⟨fb, fo + j, none⟩ = some (.int .u8 ((L.getD j 0).toNat : Int)) ∧ wr.frozen? ⟨fb, fo + j, none⟩ = false := by
        obtain ⟨_, ⟨_, h0, _⟩ | ⟨b', off', cap', hb', hv', _, hle, _, hc, ht⟩⟩ := sl
        · cases h0
        simp only [Value.slice.injEq, Option.some.injEq, Addr.mk.injEq, and_true, true_and] at hv' hb'
        obtain ⟨⟨rfl, rfl⟩, rfl⟩ := hv'
        refine ⟨hc j _ ?_, (ht j (by omega)).2⟩
        rw [bvals_get _ _ (by omega)]
        simp [List.getD_eq_getElem?_getD, List.getElem?_eq_getElem (show j < L.length by omega)]
      obtain ⟨cf1, cf2⟩ := cf
      have sl2 := sl.store j (.int .u8 ((L.getD j 0 ^^^ 255).toNat : Int)) (by rw [bvals_length]; omega)
      have hx : bits .xor .u8 ((L.getD j 0).toNat : Int) 255 = ((L.getD j 0 ^^^ 255).toNat : Int) := bv_xor8 (L.getD j 0).toBitVec (255 : UInt8).toBitVec
      have hset : (bvals L).set j (.int .u8 ((L.getD j 0 ^^^ 255).toNat : Int)) = bvals (L.set j (L.getD j 0 ^^^ 255)) := by unfold bvals; rw [List.map_set]
      rw [hset] at sl2
      have hLs : (L.set j (L.getD j 0 ^^^ 255)).length = N := by rw [List.length_set, hL]
      generalize L.set j (L.getD j 0 ^^^ 255) = L2 at sl2 hLs
      clear hset
      generalize L.getD j 0 ^^^ 255 = xx at sl2 hx
      generalize L.getD j 0 = xa at cf1 hx
      have kp2 := kp.setCell (p := ⟨fb, fo + j, none⟩) (.inr rfl) (.int .u8 (xx.toNat : Int))
      have S2 := Lib.hid sl2
      have KP2 := Lib.hid kp2
      clear sl sl2 kp kp2 sl3
      have i1 : (0 : Int) ≤ (j : Int) := by omega
      have i2 : (j : Int) < (N : Int) := by omega
      go_wp2
      exact ⟨⟨j + 1, L2, by omega, by simp, hLs, S2.out, KP2.out⟩, by simp [intOf]; omega⟩
    · obtain rfl : j = N := by omega
      have i2 : ¬ (j : Int) < (j : Int) := by omega
      have kpF : Kept (fun i => i = fb) w3 wr := kp
      have st4 := ST3.out.kept kp (fun h => by subst h; omega) (fun i hi h => HBF.out (by rw [hi, h]))
      have k4 := K3.out.trans (kp.belowB K3.out.size fun i hi h => by omega)
      have K4 := Lib.hid k4
      clear sl kp sl3 kpF k4
      go_wp2_with fail
      refine (next_any _ _ _ _ st4 (by omega)).mono ?_
      rintro e w4 ⟨_, kp4, h⟩
      have k5 := K4.out.trans (kp4.belowB K4.out.size fun i hi h => by omega)
      rw [HNX.out] at h
      rcases h with ⟨h, _⟩ | ⟨q, vq, qb, hq, rfl, slq, _⟩
      · cases h
      · obtain rfl : b = q := Option.some.inj hq
        obtain ⟨Aq, Cq, rfl⟩ := slq.rd.len
        have rq := slq.rd
        have rb := h1.below k5
        clear slq hq kp4 st4
        go_wp2_with (first | (go_at_call 15; refine (answers03 _).mono ?_; rintro e w5 ⟨rfl, hb5⟩; have cv1 := conv_str (rq.below hb5); have cv2 := conv_str (rb.below hb5)) | (go_at_call 21; refine (held_nil _).mono ?_; rintro e w0 ⟨rfl, h0⟩; rw [h0]; clear h0 w0) | fail)
        go_ret
        exact ⟨rfl, k5.trans (hb5.mono k5.size)⟩
end Go.Proofs.Ytclgnginmgleaaa
