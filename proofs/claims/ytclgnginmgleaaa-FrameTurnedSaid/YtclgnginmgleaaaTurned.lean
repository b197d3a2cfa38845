/-
  The walk of FrameTurned.
-/
import Derived.Test.YtclgnginmgleaaaFrameLaws
namespace Go.Proofs.Ytclgnginmgleaaa
open Go Go.RowKit Go.Sort

theorem turned_none (b : List UInt8) (k : Nat) (y : UInt8) (hk : k < (Fr.frameOf b).length) (hy : y ≠ 0) (p : List UInt8) (h : (Fr.next ((Fr.frameOf b).set k ((Fr.frameOf b).getD k 0 ^^^ y))).1 = some p) : p ≠ b := by
  rintro rfl
  obtain ⟨s, t, he, _, _, _⟩ := Fr.next_stood _ _ h
  have hl := congrArg List.length he
  simp only [List.length_set, List.length_append] at hl
  have hs : s = [] := List.eq_nil_of_length_eq_zero (by omega)
  have ht : t = [] := List.eq_nil_of_length_eq_zero (by omega)
  subst hs ht
  rw [List.nil_append, List.append_nil] at he
  have hg := congrArg (fun l => l.getD k 0) he
  simp only [List.getD_eq_getElem?_getD, List.getElem?_set_self hk, Option.getD_some, List.getElem?_eq_getElem hk] at hg
  apply hy
  have h2 := congrArg (fun x => (Fr.frameOf p)[k] ^^^ x) hg
  simpa [← UInt8.xor_assoc] using h2

theorem bvals_set (l : List UInt8) (k : Nat) (x : UInt8) : (bvals l).set k (.int .u8 (x.toNat : Int)) = bvals (l.set k x) := by
  unfold bvals; rw [List.map_set]

set_option maxRecDepth 100000 in
set_option maxHeartbeats 400000 in
theorem frameTurned_walk (b : List UInt8) (a1 : Option Addr) (c1 : Nat) (p : Nat) (y : UInt8) (w : World) (h1 : Rd w 1 (.slice a1 b.length c1) b.length (bvals b)) (hp : p < 256) :
    Calls Try.prog 9 #[.slice a1 b.length c1, .int .u8 p, .int .u8 (y.toNat : Int)] w fun e w' => e = .returned (.bool true) ∧ Below w.heap.size w w' := by
  by_cases c1' : b.length < 1
  · have c1'' : (b.length : Int) < 1 := by omega
    go_enter Try.func9, Try.ntmps9
    go_wp2_with (first | (go_at_call 15; refine (answers03 _).mono ?_; rintro e w3 ⟨rfl, hb3⟩) | fail)
    go_ret
    exact ⟨rfl, hb3⟩
  have d1 : ¬ (b.length : Int) < 1 := by omega
  by_cases c2' : 64 < b.length
  · have c2'' : (64 : Int) < (b.length : Int) := by omega
    go_enter Try.func9, Try.ntmps9
    go_wp2_with (first | (go_at_call 15; refine (answers03 _).mono ?_; rintro e w3 ⟨rfl, hb3⟩) | fail)
    go_ret
    exact ⟨rfl, hb3⟩
  have d2 : ¬ (64 : Int) < (b.length : Int) := by omega
  by_cases hy : y = 0
  · subst hy
    rw [show (((0 : UInt8).toNat : Int)) = 0 from rfl]
    go_enter Try.func9, Try.ntmps9
    go_wp2_with (first | (go_at_call 15; refine (answers03 _).mono ?_; rintro e w3 ⟨rfl, hb3⟩) | fail)
    go_ret
    exact ⟨rfl, hb3⟩
  have d3 : ((y.toNat : Int) == 0) = false := by
    rw [beq_eq_false_iff_ne]
    intro h; apply hy; apply UInt8.toNat_inj.1; exact Int.ofNat.inj h
  have hk64 : b.length ≤ 64 := by omega
  obtain ⟨N, hN⟩ : ∃ N, N = b.length + 6 := ⟨_, rfl⟩
  have hFl : (Fr.frameOf b).length = N := by rw [Fr.frameOf_length, hN]
  obtain ⟨k, hk, hkl⟩ : ∃ k : Nat, (p : Int).tmod (N : Int) = (k : Int) ∧ k < N := ⟨p % N, rfl, Nat.mod_lt _ (by omega)⟩
  have hz : ¬ (N : Int) = 0 := by omega
  have i1 : (0 : Int) ≤ (k : Int) := by omega
  have i2 : (k : Int) < (N : Int) := by omega
  have i3 : (N : Int) ≤ 70 := by omega
  have HT := Lib.hid (turned_none b k y (by rw [hFl]; exact hkl) hy)
  have hN' := Lib.hid hN
  go_enter Try.func9, Try.ntmps9
  go_wp2_with fail
  refine (refFrame_any _ _ _ _ h1 hk64).mono ?_
  rintro e w1 ⟨hb1, vf, blkf, rfl, slf, frf⟩
  rw [← hN] at slf
  obtain ⟨fb, fo, fc, rfl, rfl⟩ : ∃ fb fo fc, blkf = some fb ∧ vf = .slice (some ⟨fb, fo, none⟩) N fc := by
    obtain ⟨_, ⟨_, _, h0, _⟩ | ⟨fb, fo, fc, h0, hv, _⟩⟩ := slf
    · omega
    · exact ⟨fb, fo, fc, h0, hv⟩
  have hfb := frf fb rfl
  have hfl := slf.lt Nat.zero_lt_one
  have cf : w1.cell? ⟨fb, fo + k, none⟩ = some (.int .u8 (((Fr.frameOf b).getD k 0).toNat : Int)) ∧ w1.frozen? ⟨fb, fo + k, none⟩ = false := by
    obtain ⟨_, ⟨_, h0, _⟩ | ⟨b', off', cap', hb', hv', _, hle, _, hc, ht⟩⟩ := slf
    · cases h0
    simp only [Value.slice.injEq, Option.some.injEq, Addr.mk.injEq, and_true, true_and] at hv' hb'
    obtain ⟨⟨rfl, rfl⟩, rfl⟩ := hv'
    refine ⟨hc k _ ?_, (ht k (by omega)).2⟩
    rw [bvals_get _ _ (by rw [hFl]; exact hkl)]
    simp [List.getD_eq_getElem?_getD, List.getElem?_eq_getElem (show k < (Fr.frameOf b).length by rw [hFl]; exact hkl)]
  obtain ⟨cf1, cf2⟩ := cf
  have sl2 := slf.store k (.int .u8 (((Fr.frameOf b).getD k 0 ^^^ y).toNat : Int)) (by rw [bvals_length, hFl]; exact hkl)
  rw [bvals_set] at sl2
  have hx : bits .xor .u8 (((Fr.frameOf b).getD k 0).toNat : Int) (y.toNat : Int) = (((Fr.frameOf b).getD k 0 ^^^ y).toNat : Int) := bv_xor8 ((Fr.frameOf b).getD k 0).toBitVec y.toBitVec
  have hF2 : ((Fr.frameOf b).set k ((Fr.frameOf b).getD k 0 ^^^ y)).length = N := by rw [List.length_set, hFl]
  generalize (Fr.frameOf b).set k ((Fr.frameOf b).getD k 0 ^^^ y) = F2 at sl2 HT hF2
  generalize (Fr.frameOf b).getD k 0 ^^^ y = xx at sl2 hx
  generalize (Fr.frameOf b).getD k 0 = xa at cf1 hx
  clear hk64 hN hFl
  have hsz : (w1.setCell ⟨fb, fo + k, none⟩ (.int .u8 (xx.toNat : Int))).heap.size = w1.heap.size := by simp [World.setCell]
  have st0 := Strm.new (w1.setCell ⟨fb, fo + k, none⟩ (.int .u8 (xx.toNat : Int)))
  rw [hsz] at st0
  have hba : Below w1.heap.size (w1.setCell ⟨fb, fo + k, none⟩ (.int .u8 (xx.toNat : Int))) ((w1.setCell ⟨fb, fo + k, none⟩ (.int .u8 (xx.toNat : Int))).alloc (.cells #[.slice none 0 0] 40)) := by
    have := (Below.refl _ (w1.setCell ⟨fb, fo + k, none⟩ (.int .u8 (xx.toNat : Int)))).alloc (Nat.le_refl _) (.cells #[.slice none 0 0] 40)
    rwa [hsz] at this
  have hbel1 : Below w.heap.size w (w1.setCell ⟨fb, fo + k, none⟩ (.int .u8 (xx.toNat : Int))) := hb1.setCell hfb _
  have ST0 := Lib.hid st0
  have HBA := Lib.hid hba
  have SL2 := Lib.hid sl2
  have HBEL := Lib.hid hbel1
  have h1s := hb1.size
  clear st0 hba sl2 slf hbel1 hsz
  go_wp2_with fail
  have hbe := HBEL.out
  have hB0 := HBEL.out.trans (HBA.out.mono h1s)
  have sl3 := SL2.out.of_block (w' := (w1.setCell ⟨fb, fo + k, none⟩ (.int .u8 (xx.toNat : Int))).alloc (.cells #[.slice none 0 0] 40)) fun i hi => by
    obtain rfl := Option.some.inj hi
    exact HBA.out.block _ hfl
  refine (feed_any _ _ _ _ _ _ _ ST0.out sl3.rd (by simp; omega)).mono ?_
  rintro e w3 ⟨rfl, blk3, st3, _, kp3⟩
  have k3 := hB0.trans (kp3.belowB hB0.size fun i hi h => by
    rcases h with h | h
    · omega
    · cases h)
  rw [List.nil_append] at st3
  clear kp3 sl3 hB0 hbe
  go_wp2_with fail
  refine (next_any _ _ _ _ st3 (by rw [hF2]; omega)).mono ?_
  rintro e w4 ⟨_, kp4, h⟩
  have k4 := k3.trans (kp4.belowB k3.size fun i hi h => by omega)
  clear kp4 st3 hF2
  rcases h with ⟨_, rfl⟩ | ⟨q, vq, qb, hq, rfl, slq, _⟩
  · go_wp2_with (first | (go_at_call 15; refine (answers03 _).mono ?_; rintro e w5 ⟨rfl, hb5⟩) | fail)
    go_ret
    exact ⟨rfl, k4.trans (hb5.mono k4.size)⟩
  · have hne := HT.out q hq
    have hs1 : ((str q).toList == (str b).toList) = false := by
      rw [ByteArray.toList_eq, ByteArray.toList_eq]
      show (q.toArray.toList == b.toArray.toList) = false
      rw [beq_eq_false_iff_ne]; simpa using hne
    have hs2 : ((str q).toList != (str b).toList) = true := by
      unfold bne; rw [hs1]; rfl
    obtain ⟨Aq, Cq, rfl⟩ := slq.rd.len
    have rq := slq.rd
    have rb := h1.below k4
    clear slq hne hq
    go_wp2_with (first | (go_at_call 15; refine (answers03 _).mono ?_; rintro e w5 ⟨rfl, hb5⟩; have cv1 := conv_str (rq.below hb5); have cv2 := conv_str (rb.below hb5)) | fail)
    go_ret
    exact ⟨rfl, k4.trans (hb5.mono k4.size)⟩
end Go.Proofs.Ytclgnginmgleaaa
