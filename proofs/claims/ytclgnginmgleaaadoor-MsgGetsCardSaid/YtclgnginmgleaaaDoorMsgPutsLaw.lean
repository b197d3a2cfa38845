/-
  The walk of MsgPuts.
-/
import Derived.Test.YtclgnginmgleaaaDoorMsgLaws
import Derived.Test.YtclgnginmgleaaaDoorMsgPure
namespace Go.Proofs.YtclgnginmgleaaaDoor
open Go Go.RowKit Go.Sort

theorem answers_later {w : World} (ht : Tab w) (W : World) (hW : Below w.heap.size w W) : Calls Tryd.prog 9 #[] W fun e w1 => e = .returned (.bool true) ∧ Below w.heap.size w w1 ∧ Below W.heap.size W w1 :=
  (answers04 W (ht.below hW)).mono fun e w1 ⟨he, hb⟩ => ⟨he, hW.trans (hb.mono hW.size), hb⟩

set_option maxRecDepth 100000 in
set_option maxHeartbeats 1000000 in
theorem msgPuts_walk (p : M.Packet) (w : World) (ht : Tab w) : Calls Tryd.prog 3 #[.agg (packetV p)] w fun e w' => e = .returned (.bool true) ∧ Below w.heap.size w w' := by
  obtain ⟨w0, hw0⟩ : ∃ w0, w0 = w.alloc (.cells (packetV p) 25) := ⟨_, rfl⟩
  have hb0 : Below w.heap.size w w0 := by rw [hw0]; exact (Below.refl _ _).alloc (Nat.le_refl _) _
  have hB9 : ∀ W, Below w0.heap.size w0 W → _ := fun W h => box9 (w := w) p (by rw [← hw0]; exact h)
  have hPut := msgPut_any p w0
  have hMay := fun W => mayPacket_any p W
  have hGood := fun W => good_any p W
  have hAns := answers_later ht
  have hw0' := hw0.symm
  rcases hg : p.good with _ | _
  · rw [hg] at hPut hMay
    simp only [hg] at hGood
    replace hPut := hPut.mono (R' := fun e w1 => e = .returned (.tuple #[.slice none 0 0, .bool false]) ∧ Below w0.heap.size w0 w1) (fun e w1 ⟨hb, h⟩ => by
      rcases h with ⟨_, he⟩ | ⟨h, _⟩
      · exact ⟨he, hb⟩
      · cases h)
    obtain ⟨s, ep, sq, ak, has, ⟨k, a, b, c⟩⟩ := p
    simp only [packetV] at *
    have HB0 := Lib.hid hb0
    have B9 := Lib.hid hB9
    have PUT := Lib.hid hPut
    have MAY := Lib.hid hMay
    have GOOD := Lib.hid hGood
    have ANS := Lib.hid hAns
    have HW0 := Lib.hid hw0'
    clear hb0 hB9 hPut hMay hGood hAns hw0 hw0' ht hg
    go_enter Tryd.func3, Tryd.ntmps3
    go_wp2_with fail
    rw [HW0.out]
    refine PUT.out.mono ?_
    rintro e w1 ⟨rfl, hb1⟩
    obtain ⟨c0, c1, c2, c3, c4, c5, c6, c7, c8, hz⟩ := B9.out _ hb1
    have HB1 := Lib.hid hb1
    clear hb1
    go_wp2_with fail
    refine (MAY.out _).mono ?_
    rintro e w2 ⟨rfl, hb2⟩
    have hb02 := HB1.out.trans (hb2.mono HB1.out.size)
    clear c0 c1 c2 c3 c4 c5 c6 c7 c8 hz
    have HB2 := Lib.hid hb02
    clear hb2 hb02
    go_wp2_with fail
    refine (ANS.out _ (HB0.out.trans (HB2.out.mono HB0.out.size))).mono ?_
    rintro e w3 ⟨rfl, hb3, hb3'⟩
    have hb03 := HB2.out.trans (hb3'.mono HB2.out.size)
    obtain ⟨c0, c1, c2, c3, c4, c5, c6, c7, c8, hz⟩ := B9.out _ hb03
    have HB3 := Lib.hid hb3
    clear hb3 hb3' hb03
    go_wp2_with (first | (go_at_call 10; (refine (GOOD.out _).mono ?_); rintro e w4 ⟨rfl, hb4⟩; have HB4 := Lib.hid (HB3.out.trans (hb4.mono HB3.out.size)); clear hb4) | fail)
    go_ret
    exact ⟨rfl, HB4.out⟩
  · rw [hg] at hPut hMay
    simp only [hg] at hGood
    have hgp := M.get_put p hg
    have hGet : ∀ (W : World) A C, Rd W 1 (.slice A p.bytes.length C) p.bytes.length (bvals p.bytes) → Calls Tryd.prog 11 #[.slice A p.bytes.length C] W fun e w1 => e = .returned (.tuple #[.agg (packetV p), .int .i64 0]) ∧ Below W.heap.size W w1 := fun W A C h => by
      have := msgGet_any p.bytes A C W h
      rw [hgp] at this
      exact this
    have hBytes := fun W => refBytes_any p W hg
    replace hPut := hPut.mono (R' := fun e w1 => Below w0.heap.size w0 w1 ∧ ∃ A C, e = .returned (.tuple #[.slice A p.bytes.length C, .bool true]) ∧ Rd w1 1 (.slice A p.bytes.length C) p.bytes.length (bvals p.bytes)) (fun e w1 ⟨hb, h⟩ => by
      rcases h with ⟨h, _⟩ | ⟨_, v, blk, he, sl, _⟩
      · cases h
      · obtain ⟨A, C, rfl⟩ := sl.rd.len
        exact ⟨hb, A, C, he, sl.rd⟩)
    have hB9' : ∀ w2 W : World, Below (w2.alloc (.cells (packetV p) 25)).heap.size (w2.alloc (.cells (packetV p) 25)) W → _ := fun w2 W h => box9 p h
    have hConv : ∀ (W : World) A C, Rd W 1 (.slice A p.bytes.length C) p.bytes.length (bvals p.bytes) → (convert 26 9 (.slice A p.bytes.length C)).run Tryd.prog W = .ok (.string (str p.bytes)) W := fun W A C h => conv_str h
    generalize p.bytes = l at *
    generalize l.length = n at *
    obtain ⟨s, ep, sq, ak, has, ⟨k, a, b, c⟩⟩ := p
    simp only [packetV] at *
    have HB0 := Lib.hid hb0
    have B9 := Lib.hid hB9
    have B9' := Lib.hid hB9'
    have PUT := Lib.hid hPut
    have MAY := Lib.hid hMay
    have GOOD := Lib.hid hGood
    have GET := Lib.hid hGet
    have CV := Lib.hid hConv
    have BYT := Lib.hid hBytes
    have ANS := Lib.hid hAns
    have HW0 := Lib.hid hw0'
    clear hb0 hB9 hB9' hPut hMay hGood hGet hConv hBytes hAns hw0 hw0' ht hg hgp
    go_enter Tryd.func3, Tryd.ntmps3
    go_wp2_with fail
    rw [HW0.out]
    refine PUT.out.mono ?_
    rintro e w1 ⟨hb1, A, C, rfl, rd1⟩
    obtain ⟨c0, c1, c2, c3, c4, c5, c6, c7, c8, hz⟩ := B9.out _ hb1
    have HB1 := Lib.hid hb1
    have RD1 := Lib.hid rd1
    clear hb1 rd1
    go_wp2_with fail
    refine (MAY.out _).mono ?_
    rintro e w2 ⟨rfl, hb2⟩
    have hb02 := HB1.out.trans (hb2.mono HB1.out.size)
    clear c0 c1 c2 c3 c4 c5 c6 c7 c8 hz
    have HB2 := Lib.hid hb02
    have RD2 := Lib.hid (RD1.out.below hb2)
    clear hb2 hb02 RD1
    go_wp2_with fail
    (with_reducible refine (GET.out _ _ _ RD2.out).mono ?_)
    rintro e w3 ⟨rfl, hb3⟩
    have HB3 := Lib.hid (HB2.out.trans (hb3.mono HB2.out.size))
    have RD3 := Lib.hid (RD2.out.below hb3)
    clear hb3 RD2
    go_wp2_with fail
    obtain ⟨w4, hw4⟩ : ∃ w4, w4 = w3.alloc (.cells #[.int .i64 s, .int .i64 ep, .int .i64 sq, .int .i64 ak, .bool has, .int .i64 k, .int .i64 a, .int .i64 b, .int .i64 c] 25) := ⟨_, rfl⟩
    rw [← hw4]
    have hb34 : Below w3.heap.size w3 w4 := by rw [hw4]; exact (Below.refl _ _).alloc (Nat.le_refl _) _
    have HB4 := Lib.hid (HB3.out.trans (hb34.mono HB3.out.size))
    have RD4 := Lib.hid (RD3.out.below hb34)
    have SS := Lib.hid (show ∀ W, Below w4.heap.size w4 W → W.cell? ⟨w.heap.size, 0, none⟩ = some (.int .i64 s) ∧ W.cell? ⟨w.heap.size, 1, none⟩ = some (.int .i64 ep) ∧ W.cell? ⟨w.heap.size, 2, none⟩ = some (.int .i64 sq) ∧ W.cell? ⟨w.heap.size, 3, none⟩ = some (.int .i64 ak) ∧ W.cell? ⟨w.heap.size, 4, none⟩ = some (.bool has) ∧ W.cell? ⟨w.heap.size, 5, none⟩ = some (.int .i64 k) ∧ W.cell? ⟨w.heap.size, 6, none⟩ = some (.int .i64 a) ∧ W.cell? ⟨w.heap.size, 7, none⟩ = some (.int .i64 b) ∧ W.cell? ⟨w.heap.size, 8, none⟩ = some (.int .i64 c) ∧ W.cell? ⟨w3.heap.size, 0, none⟩ = some (.int .i64 s) ∧ W.cell? ⟨w3.heap.size, 1, none⟩ = some (.int .i64 ep) ∧ W.cell? ⟨w3.heap.size, 2, none⟩ = some (.int .i64 sq) ∧ W.cell? ⟨w3.heap.size, 3, none⟩ = some (.int .i64 ak) ∧ W.cell? ⟨w3.heap.size, 4, none⟩ = some (.bool has) ∧ W.cell? ⟨w3.heap.size, 5, none⟩ = some (.int .i64 k) ∧ W.cell? ⟨w3.heap.size, 6, none⟩ = some (.int .i64 a) ∧ W.cell? ⟨w3.heap.size, 7, none⟩ = some (.int .i64 b) ∧ W.cell? ⟨w3.heap.size, 8, none⟩ = some (.int .i64 c) from fun W hW => by
      obtain ⟨x0, x1, x2, x3, x4, x5, x6, x7, x8, _⟩ := B9.out W (HB4.out.trans (hW.mono HB4.out.size))
      obtain ⟨y0, y1, y2, y3, y4, y5, y6, y7, y8, _⟩ := B9'.out w3 W (by rw [← hw4]; exact hW)
      exact ⟨x0, x1, x2, x3, x4, x5, x6, x7, x8, y0, y1, y2, y3, y4, y5, y6, y7, y8⟩)
    have HR := Lib.hid (below_drew w4)
    have HWD := Lib.hid (HB0.out.trans ((HB4.out.trans (HR.out.mono HB4.out.size)).mono HB0.out.size))
    clear B9 B9' hw4 hb34 RD3 HB3
    go_region_held_law (fun W => W.cell? ⟨w.heap.size, 0, none⟩ = some (.int .i64 s) ∧ W.cell? ⟨w.heap.size, 1, none⟩ = some (.int .i64 ep) ∧ W.cell? ⟨w.heap.size, 2, none⟩ = some (.int .i64 sq) ∧ W.cell? ⟨w.heap.size, 3, none⟩ = some (.int .i64 ak) ∧ W.cell? ⟨w.heap.size, 4, none⟩ = some (.bool has) ∧ W.cell? ⟨w.heap.size, 5, none⟩ = some (.int .i64 k) ∧ W.cell? ⟨w.heap.size, 6, none⟩ = some (.int .i64 a) ∧ W.cell? ⟨w.heap.size, 7, none⟩ = some (.int .i64 b) ∧ W.cell? ⟨w.heap.size, 8, none⟩ = some (.int .i64 c) ∧ W.cell? ⟨w3.heap.size, 0, none⟩ = some (.int .i64 s) ∧ W.cell? ⟨w3.heap.size, 1, none⟩ = some (.int .i64 ep) ∧ W.cell? ⟨w3.heap.size, 2, none⟩ = some (.int .i64 sq) ∧ W.cell? ⟨w3.heap.size, 3, none⟩ = some (.int .i64 ak) ∧ W.cell? ⟨w3.heap.size, 4, none⟩ = some (.bool has) ∧ W.cell? ⟨w3.heap.size, 5, none⟩ = some (.int .i64 k) ∧ W.cell? ⟨w3.heap.size, 6, none⟩ = some (.int .i64 a) ∧ W.cell? ⟨w3.heap.size, 7, none⟩ = some (.int .i64 b) ∧ W.cell? ⟨w3.heap.size, 8, none⟩ = some (.int .i64 c)) (first | exact SS.out _ HD.out | exact SS.out _ HC.out | exact SS.out _ HA.out | exact SS.out _ HR.out) (first | (go_at_call 9; (refine (ANS.out _ HWD.out).mono ?_); rintro e w5 ⟨rfl, _, h5⟩; have HA := Lib.hid (HR.out.trans (h5.mono HR.out.size)); clear h5) | (go_at_call 10; (refine (GOOD.out _).mono ?_); rintro e w6 ⟨rfl, h6⟩; have HC := Lib.hid (HA.out.trans (h6.mono HA.out.size)); have cv6 := CV.out _ _ _ (RD4.out.below HC.out); clear h6) | (go_at_call 12; (refine (BYT.out _).mono ?_); rintro e w7 ⟨h7, v7, blk7, rfl, sl7, _⟩; have HD := Lib.hid (HC.out.trans (h7.mono HC.out.size)); have cv7 := CV.out _ _ _ (RD4.out.below HD.out); obtain ⟨A7, C7, rfl⟩ := sl7.rd.len; have cv8 := CV.out _ _ _ sl7.rd; clear h7 sl7))
    all_goals
      go_wp2
      go_ret
      exact ⟨rfl, HB0.out.trans ((HB4.out.trans (HD.out.mono HB4.out.size)).mono HB0.out.size)⟩
end Go.Proofs.YtclgnginmgleaaaDoor
