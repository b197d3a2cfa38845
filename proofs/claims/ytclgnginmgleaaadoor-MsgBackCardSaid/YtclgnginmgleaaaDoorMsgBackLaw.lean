/-
  The walk of MsgBack.
-/
import Derived.Test.YtclgnginmgleaaaDoorMsgPutsLaw
namespace Go.Proofs.YtclgnginmgleaaaDoor
open Go Go.RowKit Go.Sort

set_option maxRecDepth 100000 in
set_option maxHeartbeats 1000000 in
theorem msgBack_walk (l : List UInt8) (a0 : Option Addr) (c0 : Nat) (w : World) (ht : Tab w) (h0 : Rd w 1 (.slice a0 l.length c0) l.length (bvals l)) :
    Calls Tryd.prog 5 #[.slice a0 l.length c0] w fun e w' => e = .returned (.bool true) ∧ Below w.heap.size w w' := by
  have hAns := answers_later ht
  by_cases hbig : 500 < l.length
  · have hb' : (500 : Int) < (l.length : Int) := by omega
    have ANS := Lib.hid (hAns w (Below.refl _ _))
    clear ht h0 hAns
    go_enter Tryd.func5, Tryd.ntmps5
    go_wp2_with fail
    refine ANS.out.mono ?_
    rintro e w1 ⟨rfl, hb1, _⟩
    go_wp2
    go_ret
    exact ⟨rfl, hb1⟩
  have hb' : ¬ (500 : Int) < (l.length : Int) := by omega
  have hGet := msgGet_any l a0 c0 w h0
  have hConv : ∀ (W : World) A C, Rd W 1 (.slice A l.length C) l.length (bvals l) → (convert 26 9 (.slice A l.length C)).run Tryd.prog W = .ok (.string (str l)) W := fun W A C h => conv_str h
  have hbad := M.get_bad l
  have hput := M.put_get l
  generalize M.msgGet l = r at *
  obtain ⟨q, er⟩ := r
  simp only at hGet hbad hput
  have hB9 : ∀ w2 W : World, Below (w2.alloc (.cells (packetV q) 25)).heap.size (w2.alloc (.cells (packetV q) 25)) W → _ := fun w2 W h => box9 q h
  have hPut : er = 0 → ∀ W, Calls Tryd.prog 7 #[.agg (packetV q)] W fun e w1 => Below W.heap.size W w1 ∧ ∃ A C, e = .returned (.tuple #[.slice A l.length C, .bool true]) ∧ Rd w1 1 (.slice A l.length C) l.length (bvals l) := fun h W => by
    have h1 := hput h
    unfold M.msgPut at h1
    refine (msgPut_any q W).mono ?_
    rintro e w1 ⟨hb, ⟨hg, _⟩ | ⟨hg, v, blk, he, sl, _⟩⟩
    · rw [hg] at h1
      cases h1
    · rw [hg, if_pos rfl] at h1
      cases h1
      obtain ⟨A, C, rfl⟩ := sl.rd.len
      exact ⟨hb, A, C, he, sl.rd⟩
  clear hput
  have h0' := h0
  generalize l.length = n at *
  have GET := Lib.hid hGet
  have CV := Lib.hid hConv
  have ANS := Lib.hid hAns
  have RD := Lib.hid h0
  clear hAns hConv hGet h0 h0' ht hbig
  by_cases he : er = 0
  · subst he
    have PUT := Lib.hid (hPut rfl)
    clear hPut hbad
    obtain ⟨s, ep, sq, ak, has, ⟨k, a, b, c⟩⟩ := q
    simp only [packetV] at *
    have B9 := Lib.hid hB9
    clear hB9
    go_enter Tryd.func5, Tryd.ntmps5
    go_wp2_with fail
    (with_reducible refine GET.out.mono ?_)
    rintro e w1 ⟨rfl, hb1⟩
    have HB1 := Lib.hid hb1
    clear hb1
    go_wp2_with fail
    (with_reducible refine (PUT.out _).mono ?_)
    rintro e w2 ⟨hb2, A, C, rfl, rd2⟩
    have HB2 := Lib.hid (((HB1.out.alloc HB1.out.size _)).trans (hb2.mono (Nat.le_trans HB1.out.size (by simp))))
    have RD2 := Lib.hid rd2
    clear hb2 rd2
    go_wp2_with fail
    (with_reducible refine (ANS.out _ HB2.out).mono ?_)
    rintro e w3 ⟨rfl, hb3, hb3'⟩
    have cv1 := CV.out _ _ _ (RD.out.below hb3)
    have cv2 := CV.out _ _ _ (RD2.out.below hb3')
    have HB3 := Lib.hid hb3
    clear hb3 hb3'
    go_wp2
    go_ret
    exact ⟨rfl, HB3.out⟩
  · have hq := hbad he
    subst hq
    clear hbad hPut
    simp only [packetV, M.Packet.zero] at *
    have B9 := Lib.hid hB9
    clear hB9
    go_enter Tryd.func5, Tryd.ntmps5
    go_wp2_with fail
    (with_reducible refine GET.out.mono ?_)
    rintro e w1 ⟨rfl, hb1⟩
    have HB1 := Lib.hid hb1
    clear hb1
    go_wp2_with fail
    (with_reducible refine (ANS.out _ (HB1.out.alloc HB1.out.size _)).mono ?_)
    rintro e w3 ⟨rfl, hb3, hb3'⟩
    obtain ⟨c0, c1, c2, c3, c4, c5, c6, c7, c8, hz⟩ := B9.out w1 _ hb3'
    have HB3 := Lib.hid hb3
    clear hb3 hb3'
    go_wp2
    go_ret
    exact ⟨rfl, HB3.out⟩
end Go.Proofs.YtclgnginmgleaaaDoor
