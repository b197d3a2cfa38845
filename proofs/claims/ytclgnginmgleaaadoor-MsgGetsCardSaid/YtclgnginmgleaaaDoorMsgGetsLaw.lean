/-
  The reference's Packet at any bytes, and the walk of MsgGets.
-/
import Derived.Test.YtclgnginmgleaaaDoorRefPacketLong
namespace Go.Proofs.YtclgnginmgleaaaDoor
open Go Go.RowKit Go.Sort

theorem longQ_of (l : List UInt8) (h : l.length = 21) : longQ (fun k => (l.getD k 0).toNat) = M.longOf l := by
  obtain ⟨x0, x1, x2, x3, x4, x5, x6, x7, x8, y0, y1, y2, y3, z0, z1, z2, z3, t0, t1, t2, t3, rfl⟩ := M.list21 l h
  simp [longQ, M.longOf, M.shortOf, accN, M.number2, M.number4]

theorem refPacket_any (l : List UInt8) (a : Option Addr) (c : Nat) (w : World) (h : Rd w 1 (.slice a l.length c) l.length (bvals l)) :
    Calls Tryd.prog 13 #[.slice a l.length c] w fun e w' => e = .returned (.tuple #[.agg (packetV (M.msgGet l).1), .int .i64 (M.msgGet l).2]) ∧ Below w.heap.size w w' := by
  by_cases hno : (l.length ≠ 8 ∧ l.length ≠ 21) ∨ l.getD 0 0 ≠ 1
  · have hm : M.msgGet l = (M.Packet.zero, 2) := by unfold M.msgGet; rw [if_pos hno]
    rw [hm]
    exact refPacket_none l a c w h hno
  · have h1 : l.getD 0 0 = 1 := by
      by_cases h1 : l.getD 0 0 = 1
      · exact h1
      · exact absurd (.inr h1) hno
    by_cases h8 : l.length = 8
    · have hm : M.msgGet l = (M.shortOf l, 0) := by unfold M.msgGet; rw [if_neg hno, if_pos h8]
      obtain ⟨b, off, rfl, hc⟩ := h.all (by omega)
      have h0 := hc w (Below.refl _ _) 0 (by omega)
      rw [h1, Nat.add_zero] at h0
      have lt : ∀ k, (l.getD k 0).toNat < 256 := fun k => (l.getD k 0).toNat_lt
      have hr := refPacket_short (l.getD 1 0).toNat (l.getD 2 0).toNat (l.getD 3 0).toNat (l.getD 4 0).toNat (l.getD 5 0).toNat (l.getD 6 0).toNat (l.getD 7 0).toNat b off c w
        (fun W hW => ⟨hc W hW 1 (by omega), hc W hW 2 (by omega), hc W hW 3 (by omega), hc W hW 4 (by omega), hc W hW 5 (by omega), hc W hW 6 (by omega), hc W hW 7 (by omega)⟩) h0 (lt 1) (lt 2) (lt 3) (lt 4) (lt 5) (lt 6) (lt 7)
      rw [hm, h8]
      refine hr.mono ?_
      rintro e w1 ⟨rfl, hb⟩
      refine ⟨?_, hb⟩
      obtain ⟨x0, x1, x2, x3, x4, x5, x6, x7, rfl⟩ := M.list8 l h8
      simp [packetV, M.shortOf, M.number2, M.Msg.zero]
    · have h21 : l.length = 21 := by
        by_cases h21 : l.length = 21
        · exact h21
        · exact absurd (.inl ⟨h8, h21⟩) hno
      obtain ⟨b, off, rfl, hc⟩ := h.all (by omega)
      have h0 := hc w (Below.refl _ _) 0 (by omega)
      rw [h1, Nat.add_zero] at h0
      have hq := longQ_of l h21
      have hm : M.msgGet l = if M.kindOk (M.longOf l).msg.kind = false then (M.Packet.zero, 4) else if (M.longOf l).good = false then (M.Packet.zero, 2) else (M.longOf l, 0) := by
        unfold M.msgGet
        rw [if_neg (by rw [h21, h1]; simp), if_neg (by rw [h21]; omega)]
      have hk : (((l.getD 8 0).toNat : Nat) : Int) = (M.longOf l).msg.kind := rfl
      rw [h21]
      refine refPacket_long0 (fun k => (l.getD k 0).toNat) b off c w (fun W hW k hk => hc W hW k (by omega)) h0 (fun k => (l.getD k 0).toNat_lt) _ _ (fun g => ?_) (fun g g2 => ?_) (fun g g2 => ?_)
      · simp only [hk] at g
        rw [hm, if_pos g]; exact ⟨rfl, rfl⟩
      · simp only [hk] at g
        rw [hq] at g2
        rw [hm, if_neg (by rw [g]; simp), if_pos g2]; exact ⟨rfl, rfl⟩
      · simp only [hk] at g
        rw [hq] at g2 ⊢
        rw [hm, if_neg (by rw [g]; simp), if_neg (by rw [g2]; simp)]; exact ⟨rfl, rfl⟩

set_option maxRecDepth 100000 in
set_option maxHeartbeats 1000000 in
theorem msgGets_walk (l : List UInt8) (a0 : Option Addr) (c0 : Nat) (w : World) (ht : Tab w) (h0 : Rd w 1 (.slice a0 l.length c0) l.length (bvals l)) :
    Calls Tryd.prog 4 #[.slice a0 l.length c0] w fun e w' => e = .returned (.bool true) ∧ Below w.heap.size w w' := by
  have hAns := answers_later ht
  by_cases hbig : 500 < l.length
  · have hb' : (500 : Int) < (l.length : Int) := by omega
    have ANS := Lib.hid (hAns w (Below.refl _ _))
    clear ht h0 hAns
    go_enter Tryd.func4, Tryd.ntmps4
    go_wp2_with fail
    refine ANS.out.mono ?_
    rintro e w1 ⟨rfl, hb1, _⟩
    go_wp2
    go_ret
    exact ⟨rfl, hb1⟩
  have hb' : ¬ (500 : Int) < (l.length : Int) := by omega
  have hGet : ∀ (W : World) A C, Rd W 1 (.slice A l.length C) l.length (bvals l) → _ := fun W A C h => msgGet_any l A C W h
  have hRef : ∀ (W : World) A C, Rd W 1 (.slice A l.length C) l.length (bvals l) → _ := fun W A C h => refPacket_any l A C W h
  generalize M.msgGet l = r at *
  obtain ⟨q, er⟩ := r
  simp only at hGet hRef
  have hB9 : ∀ w2 W : World, Below (w2.alloc (.cells (packetV q) 25)).heap.size (w2.alloc (.cells (packetV q) 25)) W → _ := fun w2 W h => box9 q h
  have hbel0 : Below w.heap.size w (w.alloc (.cells #[] 5)) := (Below.refl _ _).alloc (Nat.le_refl _) _
  have sl0 := Sl.empty (w.alloc (.cells #[] 5)) 1 (some ⟨w.heap.size, 0, none⟩)
  have sr1 := (h0.below hbel0).srcB
  have bd1 : (3 * (0 + l.length) + 1024) * (1 + 1) ≤ 281474976710656 := by omega
  have REF := Lib.hid hRef
  have GET := Lib.hid hGet
  have ANS := Lib.hid hAns
  have RD := Lib.hid h0
  have BEL0 := Lib.hid hbel0
  clear hAns hRef hGet h0 ht hbig hbel0
  obtain ⟨s, ep, sq, ak, has, ⟨k, a, b, c⟩⟩ := q
  simp only [packetV] at *
  have B9 := Lib.hid hB9
  clear hB9
  go_enter Tryd.func4, Tryd.ntmps4
  go_wp2_with (first | (at_builtin; go_must (refine wpList_append_sl rfl _ _ _ _ 5 rfl under22 info5 rfl Nat.zero_lt_one rfl rfl sl0 sr1 bd1 ?_; intro v1 w1 blk1 sl1 fr1 kp1; have BEL1 := Lib.hid (Kept.toBelow BEL0.out kp1 (fun b hb => by cases hb)); obtain ⟨A1, C1, rfl⟩ := sl1.rd.len; clear sl0 sr1)) | fail)
  rw [List.nil_append, Nat.zero_add] at sl1
  have RD1 := Lib.hid sl1.rd
  clear sl1 fr1 kp1 bd1
  go_wp2_with fail
  (with_reducible refine (GET.out _ _ _ RD1.out).mono ?_)
  rintro e w2 ⟨rfl, hb2⟩
  have HB2 := Lib.hid (BEL1.out.trans (hb2.mono BEL1.out.size))
  clear hb2
  go_wp2_with fail
  obtain ⟨w3, hw3⟩ : ∃ w3, w3 = w2.alloc (.cells #[.int .i64 s, .int .i64 ep, .int .i64 sq, .int .i64 ak, .bool has, .int .i64 k, .int .i64 a, .int .i64 b, .int .i64 c] 25) := ⟨_, rfl⟩
  rw [← hw3]
  have hb23 : Below w2.heap.size w2 w3 := by rw [hw3]; exact (Below.refl _ _).alloc (Nat.le_refl _) _
  have HB3 := Lib.hid (HB2.out.trans (hb23.mono HB2.out.size))
  have P3 := Lib.hid (show ∀ W, Below w3.heap.size w3 W → _ from fun W h => B9.out w2 W (by rw [← hw3]; exact h))
  clear hw3 hb23
  (with_reducible refine (REF.out _ _ _ (RD.out.below HB3.out)).mono ?_)
  rintro e w4 ⟨rfl, hb4⟩
  have HB4 := Lib.hid (HB3.out.trans (hb4.mono HB3.out.size))
  have HC4 := Lib.hid hb4
  clear hb4
  go_wp2_with fail
  obtain ⟨w5, hw5⟩ : ∃ w5, w5 = w4.alloc (.cells #[.int .i64 s, .int .i64 ep, .int .i64 sq, .int .i64 ak, .bool has, .int .i64 k, .int .i64 a, .int .i64 b, .int .i64 c] 25) := ⟨_, rfl⟩
  rw [← hw5]
  have hb45 : Below w4.heap.size w4 w5 := by rw [hw5]; exact (Below.refl _ _).alloc (Nat.le_refl _) _
  have HB5 := Lib.hid (HB4.out.trans (hb45.mono HB4.out.size))
  have P5 := Lib.hid (show ∀ W, Below w5.heap.size w5 W → _ from fun W h => B9.out w4 W (by rw [← hw5]; exact h))
  have HC5 := Lib.hid (HC4.out.trans (hb45.mono HC4.out.size))
  clear hw5 hb45
  (with_reducible refine (ANS.out _ HB5.out).mono ?_)
  rintro e w6 ⟨rfl, hb6, hb6'⟩
  obtain ⟨x0, x1, x2, x3, x4, x5, x6, x7, x8, xz⟩ := P3.out w6 (HC5.out.trans (hb6'.mono HC5.out.size))
  obtain ⟨y0, y1, y2, y3, y4, y5, y6, y7, y8, yz⟩ := P5.out w6 hb6'
  have HB6 := Lib.hid hb6
  clear hb6 hb6'
  go_wp2
  go_ret
  exact ⟨rfl, HB6.out⟩
end Go.Proofs.YtclgnginmgleaaaDoor
