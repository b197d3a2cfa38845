/-
  Walks of the laws of packets.
-/
import Derived.Test.YtclgnginmgleaaaDoorMsgNames
namespace Go.Proofs.YtclgnginmgleaaaDoor
open Go Go.RowKit Go.Sort

/-- The nine cells of a packet's box that still stands. -/
theorem box9 {w W : World} (p : M.Packet) (h : Below (w.alloc (.cells (packetV p) 25)).heap.size (w.alloc (.cells (packetV p) 25)) W) :
    W.cell? ⟨w.heap.size, 0, none⟩ = some (.int .i64 p.session) ∧ W.cell? ⟨w.heap.size, 1, none⟩ = some (.int .i64 p.epoch) ∧ W.cell? ⟨w.heap.size, 2, none⟩ = some (.int .i64 p.seq) ∧ W.cell? ⟨w.heap.size, 3, none⟩ = some (.int .i64 p.ack) ∧ W.cell? ⟨w.heap.size, 4, none⟩ = some (.bool p.has) ∧
    W.cell? ⟨w.heap.size, 5, none⟩ = some (.int .i64 p.msg.kind) ∧ W.cell? ⟨w.heap.size, 6, none⟩ = some (.int .i64 p.msg.a) ∧ W.cell? ⟨w.heap.size, 7, none⟩ = some (.int .i64 p.msg.b) ∧ W.cell? ⟨w.heap.size, 8, none⟩ = some (.int .i64 p.msg.c) ∧ w.heap.size < W.heap.size :=
  ⟨box_cell h 0 _ rfl, box_cell h 1 _ rfl, box_cell h 2 _ rfl, box_cell h 3 _ rfl, box_cell h 4 _ rfl, box_cell h 5 _ rfl, box_cell h 6 _ rfl, box_cell h 7 _ rfl, box_cell h 8 _ rfl, by have := h.size; simp at this; omega⟩

def p0 : M.Packet := ⟨3, 258, 0, 0, true, ⟨16, 0, 0, 7⟩⟩
theorem p0_good : p0.good = true := by decide +kernel
theorem p0_get : M.msgGet p0.bytes = (p0, 0) := by decide +kernel
theorem p0_len : p0.bytes.length = 21 := by decide +kernel
theorem p0_name : nameOf 16 = [101, 118, 105, 99, 116] := by decide +kernel

set_option maxRecDepth 100000 in
set_option maxHeartbeats 1000000 in
theorem answers04 (w : World) (ht : Tab w) : Calls Tryd.prog 9 #[] w fun e w' => e = .returned (.bool true) ∧ Below w.heap.size w w' := by
  obtain ⟨w0, hw0⟩ : ∃ w0, w0 = w.alloc (.cells (packetV p0) 25) := ⟨_, rfl⟩
  have hb0 : Below w.heap.size w w0 := by rw [hw0]; exact (Below.refl _ _).alloc (Nat.le_refl _) _
  have CP := Lib.hid (show Calls Tryd.prog 7 #[.agg #[.int .i64 3, .int .i64 258, .int .i64 0, .int .i64 0, .bool true, .int .i64 16, .int .i64 0, .int .i64 0, .int .i64 7]] w0 fun e w1 => Below w0.heap.size w0 w1 ∧ ∃ A C, e = .returned (.tuple #[.slice A 21 C, .bool true]) ∧ Rd w1 1 (.slice A 21 C) 21 (bvals p0.bytes) from by
    refine (msgPut_any p0 w0).mono ?_
    rintro e w1 ⟨hb, ⟨hg, _⟩ | ⟨_, v, blk, rfl, sl, _⟩⟩
    · rw [p0_good] at hg; cases hg
    · rw [p0_len] at sl
      obtain ⟨A, C, rfl⟩ := sl.rd.len
      exact ⟨hb, A, C, rfl, sl.rd⟩)
  have CG := Lib.hid (show ∀ (W : World) A C, Rd W 1 (.slice A 21 C) 21 (bvals p0.bytes) → Calls Tryd.prog 11 #[.slice A 21 C] W fun e w1 => e = .returned (.tuple #[.agg #[.int .i64 3, .int .i64 258, .int .i64 0, .int .i64 0, .bool true, .int .i64 16, .int .i64 0, .int .i64 0, .int .i64 7], .int .i64 0]) ∧ Below W.heap.size W w1 from fun W A C h => by
    have := msgGet_any p0.bytes A C W (by rw [p0_len]; exact h)
    rw [p0_get, p0_len] at this
    exact this)
  have CD := Lib.hid (show ∀ (W : World), Calls Tryd.prog 10 #[.agg #[.int .i64 3, .int .i64 258, .int .i64 0, .int .i64 0, .bool true, .int .i64 16, .int .i64 0, .int .i64 0, .int .i64 7]] W fun e w1 => e = .returned (.bool true) ∧ Below W.heap.size W w1 from fun W => by
    have := good_any p0 W
    rw [p0_good] at this
    exact this)
  have B9 := Lib.hid (show ∀ W, Below w0.heap.size w0 W → W.cell? ⟨w.heap.size, 0, none⟩ = some (.int .i64 3) ∧ W.cell? ⟨w.heap.size, 1, none⟩ = some (.int .i64 258) ∧ W.cell? ⟨w.heap.size, 2, none⟩ = some (.int .i64 0) ∧ W.cell? ⟨w.heap.size, 3, none⟩ = some (.int .i64 0) ∧ W.cell? ⟨w.heap.size, 4, none⟩ = some (.bool true) ∧
      W.cell? ⟨w.heap.size, 5, none⟩ = some (.int .i64 16) ∧ W.cell? ⟨w.heap.size, 6, none⟩ = some (.int .i64 0) ∧ W.cell? ⟨w.heap.size, 7, none⟩ = some (.int .i64 0) ∧ W.cell? ⟨w.heap.size, 8, none⟩ = some (.int .i64 7) ∧ w.heap.size < W.heap.size from fun W h => by rw [hw0] at h; exact box9 p0 h)
  have HB0 := Lib.hid hb0
  have HT := Lib.hid ht
  have HW0 := Lib.hid (show w.alloc (.cells #[.int .i64 3, .int .i64 258, .int .i64 0, .int .i64 0, .bool true, .int .i64 16, .int .i64 0, .int .i64 0, .int .i64 7] 25) = w0 from hw0.symm)
  clear hw0 hb0 ht
  go_enter Tryd.func9, Tryd.ntmps9
  go_wp2_with fail
  rw [HW0.out]
  refine CP.out.mono ?_
  rintro e w1 ⟨hb1, A, C, rfl, rd1⟩
  have HB1 := Lib.hid hb1
  have RD1 := Lib.hid rd1
  clear hb1 rd1
  go_wp2_with fail
  refine (CG.out _ _ _ RD1.out).mono ?_
  rintro e w2 ⟨rfl, hb2⟩
  have hb02 := HB1.out.trans (hb2.mono HB1.out.size)
  obtain ⟨c0, c1, c2, c3, c4, c5, c6, c7, c8, hz⟩ := B9.out _ hb02
  have HB2 := Lib.hid hb02
  clear hb2 hb02
  have NM := Lib.hid (show ∀ W, Below w.heap.size w W → Calls Tryd.prog 14 #[.int .i64 16] W fun e w1 => e = .returned (.string ⟨#[101, 118, 105, 99, 116]⟩) ∧ Below W.heap.size W w1 from fun W hW => by
    have := name_any 16 W (HT.out.below hW)
    rw [p0_name] at this
    exact this)
  have HB3 := Lib.hid (HB0.out.trans (HB2.out.mono HB0.out.size))
  go_wp2_with (first | (go_at_call 10; (refine (CD.out _).mono ?_); rintro e w3 ⟨rfl, hb3⟩; have HB4 := Lib.hid ((HB3.out.alloc HB3.out.size _).trans (hb3.mono (Nat.le_trans HB3.out.size (by simp)))); clear hb3) | (go_at_call 15; (with_reducible refine (robot_any _ _).mono ?_); rintro e w4 ⟨rfl, h4⟩; rw [h4, show M.isRobot 1 = true from rfl]; clear h4 w4) | (go_at_call 14; (refine (NM.out _ HB4.out).mono ?_); rintro e w5 ⟨rfl, hb5⟩; have HB5 := Lib.hid (HB4.out.trans (hb5.mono HB4.out.size)); clear hb5) | fail)
  go_ret
  exact ⟨rfl, HB5.out⟩
end Go.Proofs.YtclgnginmgleaaaDoor
