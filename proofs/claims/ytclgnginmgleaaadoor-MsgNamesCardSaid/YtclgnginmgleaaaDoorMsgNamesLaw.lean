/-
  The walk of MsgNames.
-/
import Derived.Test.YtclgnginmgleaaaDoorMsgLaws
namespace Go.Proofs.YtclgnginmgleaaaDoor
open Go Go.RowKit Go.Sort

set_option maxRecDepth 100000 in
set_option maxHeartbeats 2000000 in
theorem msgNames_walk (n : Int) (w : World) (ht : Tab w) : Calls Tryd.prog 6 #[.int .i64 n] w fun e w' => e = .returned (.bool true) ∧ Below w.heap.size w w' := by
  have HT := Lib.hid ht
  have HL := Lib.hid (show ∀ W0, Below w.heap.size w (w.alloc W0) from fun W0 => (Below.refl _ _).alloc (Nat.le_refl _) _)
  have ANS := Lib.hid (show ∀ W, Below w.heap.size w W → Calls Tryd.prog 9 #[] W fun e w1 => e = .returned (.bool true) ∧ Below w.heap.size w w1 from fun W hW => (answers04 W (HT.out.below hW)).mono fun e w1 ⟨he, hb⟩ => ⟨he, hW.trans (hb.mono hW.size)⟩)
  have NAM := Lib.hid (show ∀ W, Below w.heap.size w W → Calls Tryd.prog 14 #[.int .i64 n] W fun e w1 => e = .returned (.string (str (nameOf n))) ∧ Below w.heap.size w w1 from fun W hW => (name_any n W (HT.out.below hW)).mono fun e w1 ⟨he, hb⟩ => ⟨he, hW.trans (hb.mono hW.size)⟩)
  by_cases hk : 1 ≤ n ∧ n ≤ 16
  · rcases (show n = 1 ∨ n = 2 ∨ n = 3 ∨ n = 4 ∨ n = 5 ∨ n = 6 ∨ n = 7 ∨ n = 8 ∨ n = 9 ∨ n = 10 ∨ n = 11 ∨ n = 12 ∨ n = 13 ∨ n = 14 ∨ n = 15 ∨ n = 16 by omega) with rfl | rfl | rfl | rfl | rfl | rfl | rfl | rfl | rfl | rfl | rfl | rfl | rfl | rfl | rfl | rfl
    · have NM := Lib.hid (show ∀ W, Below w.heap.size w W → Calls Tryd.prog 14 #[.int .i64 1] W fun e w1 => e = .returned (.string ⟨#[104, 101, 108, 108, 111]⟩) ∧ Below w.heap.size w w1 from fun W hW => by
        have := NAM.out W hW
        rw [show str (nameOf 1) = ⟨#[104, 101, 108, 108, 111]⟩ from by rw [show nameOf 1 = [104, 101, 108, 108, 111] from by decide +kernel]; rfl] at this
        exact this)
      have HRB := Lib.hid (show M.isRobot 1 = true from by decide +kernel)
      clear hk ht NAM
      go_enter Tryd.func6, Tryd.ntmps6
      go_wp2_with (first | (go_at_call 9; (refine (ANS.out _ (HL.out _)).mono ?_); rintro e w3 ⟨rfl, hb3⟩; have HB3 := Lib.hid hb3; clear hb3) | (go_at_call 14; (refine (NM.out _ HB3.out).mono ?_); rintro e w4 ⟨rfl, hb4⟩; have HB4 := Lib.hid hb4; clear hb4) | (go_at_call 15; (with_reducible refine (robot_any _ _).mono ?_); rintro e w5 ⟨rfl, h5⟩; rw [h5, HRB.out]; clear h5 w5) | fail)
      go_ret
      exact ⟨rfl, HB4.out⟩
    · have NM := Lib.hid (show ∀ W, Below w.heap.size w W → Calls Tryd.prog 14 #[.int .i64 2] W fun e w1 => e = .returned (.string ⟨#[119, 101, 108, 99, 111, 109, 101]⟩) ∧ Below w.heap.size w w1 from fun W hW => by
        have := NAM.out W hW
        rw [show str (nameOf 2) = ⟨#[119, 101, 108, 99, 111, 109, 101]⟩ from by rw [show nameOf 2 = [119, 101, 108, 99, 111, 109, 101] from by decide +kernel]; rfl] at this
        exact this)
      have HRB := Lib.hid (show M.isRobot 2 = false from by decide +kernel)
      clear hk ht NAM
      go_enter Tryd.func6, Tryd.ntmps6
      go_wp2_with (first | (go_at_call 9; (refine (ANS.out _ (HL.out _)).mono ?_); rintro e w3 ⟨rfl, hb3⟩; have HB3 := Lib.hid hb3; clear hb3) | (go_at_call 14; (refine (NM.out _ HB3.out).mono ?_); rintro e w4 ⟨rfl, hb4⟩; have HB4 := Lib.hid hb4; clear hb4) | (go_at_call 15; (with_reducible refine (robot_any _ _).mono ?_); rintro e w5 ⟨rfl, h5⟩; rw [h5, HRB.out]; clear h5 w5) | fail)
      go_ret
      exact ⟨rfl, HB4.out⟩
    · have NM := Lib.hid (show ∀ W, Below w.heap.size w W → Calls Tryd.prog 14 #[.int .i64 3] W fun e w1 => e = .returned (.string ⟨#[114, 101, 113, 117, 101, 115, 116]⟩) ∧ Below w.heap.size w w1 from fun W hW => by
        have := NAM.out W hW
        rw [show str (nameOf 3) = ⟨#[114, 101, 113, 117, 101, 115, 116]⟩ from by rw [show nameOf 3 = [114, 101, 113, 117, 101, 115, 116] from by decide +kernel]; rfl] at this
        exact this)
      have HRB := Lib.hid (show M.isRobot 3 = true from by decide +kernel)
      clear hk ht NAM
      go_enter Tryd.func6, Tryd.ntmps6
      go_wp2_with (first | (go_at_call 9; (refine (ANS.out _ (HL.out _)).mono ?_); rintro e w3 ⟨rfl, hb3⟩; have HB3 := Lib.hid hb3; clear hb3) | (go_at_call 14; (refine (NM.out _ HB3.out).mono ?_); rintro e w4 ⟨rfl, hb4⟩; have HB4 := Lib.hid hb4; clear hb4) | (go_at_call 15; (with_reducible refine (robot_any _ _).mono ?_); rintro e w5 ⟨rfl, h5⟩; rw [h5, HRB.out]; clear h5 w5) | fail)
      go_ret
      exact ⟨rfl, HB4.out⟩
    · have NM := Lib.hid (show ∀ W, Below w.heap.size w W → Calls Tryd.prog 14 #[.int .i64 4] W fun e w1 => e = .returned (.string ⟨#[103, 114, 97, 110, 116]⟩) ∧ Below w.heap.size w w1 from fun W hW => by
        have := NAM.out W hW
        rw [show str (nameOf 4) = ⟨#[103, 114, 97, 110, 116]⟩ from by rw [show nameOf 4 = [103, 114, 97, 110, 116] from by decide +kernel]; rfl] at this
        exact this)
      have HRB := Lib.hid (show M.isRobot 4 = false from by decide +kernel)
      clear hk ht NAM
      go_enter Tryd.func6, Tryd.ntmps6
      go_wp2_with (first | (go_at_call 9; (refine (ANS.out _ (HL.out _)).mono ?_); rintro e w3 ⟨rfl, hb3⟩; have HB3 := Lib.hid hb3; clear hb3) | (go_at_call 14; (refine (NM.out _ HB3.out).mono ?_); rintro e w4 ⟨rfl, hb4⟩; have HB4 := Lib.hid hb4; clear hb4) | (go_at_call 15; (with_reducible refine (robot_any _ _).mono ?_); rintro e w5 ⟨rfl, h5⟩; rw [h5, HRB.out]; clear h5 w5) | fail)
      go_ret
      exact ⟨rfl, HB4.out⟩
    · have NM := Lib.hid (show ∀ W, Below w.heap.size w W → Calls Tryd.prog 14 #[.int .i64 5] W fun e w1 => e = .returned (.string ⟨#[113, 117, 101, 117, 101, 100]⟩) ∧ Below w.heap.size w w1 from fun W hW => by
        have := NAM.out W hW
        rw [show str (nameOf 5) = ⟨#[113, 117, 101, 117, 101, 100]⟩ from by rw [show nameOf 5 = [113, 117, 101, 117, 101, 100] from by decide +kernel]; rfl] at this
        exact this)
      have HRB := Lib.hid (show M.isRobot 5 = false from by decide +kernel)
      clear hk ht NAM
      go_enter Tryd.func6, Tryd.ntmps6
      go_wp2_with (first | (go_at_call 9; (refine (ANS.out _ (HL.out _)).mono ?_); rintro e w3 ⟨rfl, hb3⟩; have HB3 := Lib.hid hb3; clear hb3) | (go_at_call 14; (refine (NM.out _ HB3.out).mono ?_); rintro e w4 ⟨rfl, hb4⟩; have HB4 := Lib.hid hb4; clear hb4) | (go_at_call 15; (with_reducible refine (robot_any _ _).mono ?_); rintro e w5 ⟨rfl, h5⟩; rw [h5, HRB.out]; clear h5 w5) | fail)
      go_ret
      exact ⟨rfl, HB4.out⟩
    · have NM := Lib.hid (show ∀ W, Below w.heap.size w W → Calls Tryd.prog 14 #[.int .i64 6] W fun e w1 => e = .returned (.string ⟨#[98, 117, 115, 121]⟩) ∧ Below w.heap.size w w1 from fun W hW => by
        have := NAM.out W hW
        rw [show str (nameOf 6) = ⟨#[98, 117, 115, 121]⟩ from by rw [show nameOf 6 = [98, 117, 115, 121] from by decide +kernel]; rfl] at this
        exact this)
      have HRB := Lib.hid (show M.isRobot 6 = false from by decide +kernel)
      clear hk ht NAM
      go_enter Tryd.func6, Tryd.ntmps6
      go_wp2_with (first | (go_at_call 9; (refine (ANS.out _ (HL.out _)).mono ?_); rintro e w3 ⟨rfl, hb3⟩; have HB3 := Lib.hid hb3; clear hb3) | (go_at_call 14; (refine (NM.out _ HB3.out).mono ?_); rintro e w4 ⟨rfl, hb4⟩; have HB4 := Lib.hid hb4; clear hb4) | (go_at_call 15; (with_reducible refine (robot_any _ _).mono ?_); rintro e w5 ⟨rfl, h5⟩; rw [h5, HRB.out]; clear h5 w5) | fail)
      go_ret
      exact ⟨rfl, HB4.out⟩
    · have NM := Lib.hid (show ∀ W, Below w.heap.size w W → Calls Tryd.prog 14 #[.int .i64 7] W fun e w1 => e = .returned (.string ⟨#[100, 101, 110, 121]⟩) ∧ Below w.heap.size w w1 from fun W hW => by
        have := NAM.out W hW
        rw [show str (nameOf 7) = ⟨#[100, 101, 110, 121]⟩ from by rw [show nameOf 7 = [100, 101, 110, 121] from by decide +kernel]; rfl] at this
        exact this)
      have HRB := Lib.hid (show M.isRobot 7 = false from by decide +kernel)
      clear hk ht NAM
      go_enter Tryd.func6, Tryd.ntmps6
      go_wp2_with (first | (go_at_call 9; (refine (ANS.out _ (HL.out _)).mono ?_); rintro e w3 ⟨rfl, hb3⟩; have HB3 := Lib.hid hb3; clear hb3) | (go_at_call 14; (refine (NM.out _ HB3.out).mono ?_); rintro e w4 ⟨rfl, hb4⟩; have HB4 := Lib.hid hb4; clear hb4) | (go_at_call 15; (with_reducible refine (robot_any _ _).mono ?_); rintro e w5 ⟨rfl, h5⟩; rw [h5, HRB.out]; clear h5 w5) | fail)
      go_ret
      exact ⟨rfl, HB4.out⟩
    · have NM := Lib.hid (show ∀ W, Below w.heap.size w W → Calls Tryd.prog 14 #[.int .i64 8] W fun e w1 => e = .returned (.string ⟨#[97, 114, 114, 105, 118, 101, 100]⟩) ∧ Below w.heap.size w w1 from fun W hW => by
        have := NAM.out W hW
        rw [show str (nameOf 8) = ⟨#[97, 114, 114, 105, 118, 101, 100]⟩ from by rw [show nameOf 8 = [97, 114, 114, 105, 118, 101, 100] from by decide +kernel]; rfl] at this
        exact this)
      have HRB := Lib.hid (show M.isRobot 8 = false from by decide +kernel)
      clear hk ht NAM
      go_enter Tryd.func6, Tryd.ntmps6
      go_wp2_with (first | (go_at_call 9; (refine (ANS.out _ (HL.out _)).mono ?_); rintro e w3 ⟨rfl, hb3⟩; have HB3 := Lib.hid hb3; clear hb3) | (go_at_call 14; (refine (NM.out _ HB3.out).mono ?_); rintro e w4 ⟨rfl, hb4⟩; have HB4 := Lib.hid hb4; clear hb4) | (go_at_call 15; (with_reducible refine (robot_any _ _).mono ?_); rintro e w5 ⟨rfl, h5⟩; rw [h5, HRB.out]; clear h5 w5) | fail)
      go_ret
      exact ⟨rfl, HB4.out⟩
    · have NM := Lib.hid (show ∀ W, Below w.heap.size w W → Calls Tryd.prog 14 #[.int .i64 9] W fun e w1 => e = .returned (.string ⟨#[101, 110, 116, 101, 114, 101, 100]⟩) ∧ Below w.heap.size w w1 from fun W hW => by
        have := NAM.out W hW
        rw [show str (nameOf 9) = ⟨#[101, 110, 116, 101, 114, 101, 100]⟩ from by rw [show nameOf 9 = [101, 110, 116, 101, 114, 101, 100] from by decide +kernel]; rfl] at this
        exact this)
      have HRB := Lib.hid (show M.isRobot 9 = true from by decide +kernel)
      clear hk ht NAM
      go_enter Tryd.func6, Tryd.ntmps6
      go_wp2_with (first | (go_at_call 9; (refine (ANS.out _ (HL.out _)).mono ?_); rintro e w3 ⟨rfl, hb3⟩; have HB3 := Lib.hid hb3; clear hb3) | (go_at_call 14; (refine (NM.out _ HB3.out).mono ?_); rintro e w4 ⟨rfl, hb4⟩; have HB4 := Lib.hid hb4; clear hb4) | (go_at_call 15; (with_reducible refine (robot_any _ _).mono ?_); rintro e w5 ⟨rfl, h5⟩; rw [h5, HRB.out]; clear h5 w5) | fail)
      go_ret
      exact ⟨rfl, HB4.out⟩
    · have NM := Lib.hid (show ∀ W, Below w.heap.size w W → Calls Tryd.prog 14 #[.int .i64 10] W fun e w1 => e = .returned (.string ⟨#[114, 105, 100, 101, 111, 107]⟩) ∧ Below w.heap.size w w1 from fun W hW => by
        have := NAM.out W hW
        rw [show str (nameOf 10) = ⟨#[114, 105, 100, 101, 111, 107]⟩ from by rw [show nameOf 10 = [114, 105, 100, 101, 111, 107] from by decide +kernel]; rfl] at this
        exact this)
      have HRB := Lib.hid (show M.isRobot 10 = false from by decide +kernel)
      clear hk ht NAM
      go_enter Tryd.func6, Tryd.ntmps6
      go_wp2_with (first | (go_at_call 9; (refine (ANS.out _ (HL.out _)).mono ?_); rintro e w3 ⟨rfl, hb3⟩; have HB3 := Lib.hid hb3; clear hb3) | (go_at_call 14; (refine (NM.out _ HB3.out).mono ?_); rintro e w4 ⟨rfl, hb4⟩; have HB4 := Lib.hid hb4; clear hb4) | (go_at_call 15; (with_reducible refine (robot_any _ _).mono ?_); rintro e w5 ⟨rfl, h5⟩; rw [h5, HRB.out]; clear h5 w5) | fail)
      go_ret
      exact ⟨rfl, HB4.out⟩
    · have NM := Lib.hid (show ∀ W, Below w.heap.size w W → Calls Tryd.prog 14 #[.int .i64 11] W fun e w1 => e = .returned (.string ⟨#[114, 101, 106, 101, 99, 116]⟩) ∧ Below w.heap.size w w1 from fun W hW => by
        have := NAM.out W hW
        rw [show str (nameOf 11) = ⟨#[114, 101, 106, 101, 99, 116]⟩ from by rw [show nameOf 11 = [114, 101, 106, 101, 99, 116] from by decide +kernel]; rfl] at this
        exact this)
      have HRB := Lib.hid (show M.isRobot 11 = false from by decide +kernel)
      clear hk ht NAM
      go_enter Tryd.func6, Tryd.ntmps6
      go_wp2_with (first | (go_at_call 9; (refine (ANS.out _ (HL.out _)).mono ?_); rintro e w3 ⟨rfl, hb3⟩; have HB3 := Lib.hid hb3; clear hb3) | (go_at_call 14; (refine (NM.out _ HB3.out).mono ?_); rintro e w4 ⟨rfl, hb4⟩; have HB4 := Lib.hid hb4; clear hb4) | (go_at_call 15; (with_reducible refine (robot_any _ _).mono ?_); rintro e w5 ⟨rfl, h5⟩; rw [h5, HRB.out]; clear h5 w5) | fail)
      go_ret
      exact ⟨rfl, HB4.out⟩
    · have NM := Lib.hid (show ∀ W, Below w.heap.size w W → Calls Tryd.prog 14 #[.int .i64 12] W fun e w1 => e = .returned (.string ⟨#[101, 120, 105, 116]⟩) ∧ Below w.heap.size w w1 from fun W hW => by
        have := NAM.out W hW
        rw [show str (nameOf 12) = ⟨#[101, 120, 105, 116]⟩ from by rw [show nameOf 12 = [101, 120, 105, 116] from by decide +kernel]; rfl] at this
        exact this)
      have HRB := Lib.hid (show M.isRobot 12 = false from by decide +kernel)
      clear hk ht NAM
      go_enter Tryd.func6, Tryd.ntmps6
      go_wp2_with (first | (go_at_call 9; (refine (ANS.out _ (HL.out _)).mono ?_); rintro e w3 ⟨rfl, hb3⟩; have HB3 := Lib.hid hb3; clear hb3) | (go_at_call 14; (refine (NM.out _ HB3.out).mono ?_); rintro e w4 ⟨rfl, hb4⟩; have HB4 := Lib.hid hb4; clear hb4) | (go_at_call 15; (with_reducible refine (robot_any _ _).mono ?_); rintro e w5 ⟨rfl, h5⟩; rw [h5, HRB.out]; clear h5 w5) | fail)
      go_ret
      exact ⟨rfl, HB4.out⟩
    · have NM := Lib.hid (show ∀ W, Below w.heap.size w W → Calls Tryd.prog 14 #[.int .i64 13] W fun e w1 => e = .returned (.string ⟨#[101, 120, 105, 116, 101, 100]⟩) ∧ Below w.heap.size w w1 from fun W hW => by
        have := NAM.out W hW
        rw [show str (nameOf 13) = ⟨#[101, 120, 105, 116, 101, 100]⟩ from by rw [show nameOf 13 = [101, 120, 105, 116, 101, 100] from by decide +kernel]; rfl] at this
        exact this)
      have HRB := Lib.hid (show M.isRobot 13 = true from by decide +kernel)
      clear hk ht NAM
      go_enter Tryd.func6, Tryd.ntmps6
      go_wp2_with (first | (go_at_call 9; (refine (ANS.out _ (HL.out _)).mono ?_); rintro e w3 ⟨rfl, hb3⟩; have HB3 := Lib.hid hb3; clear hb3) | (go_at_call 14; (refine (NM.out _ HB3.out).mono ?_); rintro e w4 ⟨rfl, hb4⟩; have HB4 := Lib.hid hb4; clear hb4) | (go_at_call 15; (with_reducible refine (robot_any _ _).mono ?_); rintro e w5 ⟨rfl, h5⟩; rw [h5, HRB.out]; clear h5 w5) | fail)
      go_ret
      exact ⟨rfl, HB4.out⟩
    · have NM := Lib.hid (show ∀ W, Below w.heap.size w W → Calls Tryd.prog 14 #[.int .i64 14] W fun e w1 => e = .returned (.string ⟨#[101, 120, 105, 116, 111, 107]⟩) ∧ Below w.heap.size w w1 from fun W hW => by
        have := NAM.out W hW
        rw [show str (nameOf 14) = ⟨#[101, 120, 105, 116, 111, 107]⟩ from by rw [show nameOf 14 = [101, 120, 105, 116, 111, 107] from by decide +kernel]; rfl] at this
        exact this)
      have HRB := Lib.hid (show M.isRobot 14 = false from by decide +kernel)
      clear hk ht NAM
      go_enter Tryd.func6, Tryd.ntmps6
      go_wp2_with (first | (go_at_call 9; (refine (ANS.out _ (HL.out _)).mono ?_); rintro e w3 ⟨rfl, hb3⟩; have HB3 := Lib.hid hb3; clear hb3) | (go_at_call 14; (refine (NM.out _ HB3.out).mono ?_); rintro e w4 ⟨rfl, hb4⟩; have HB4 := Lib.hid hb4; clear hb4) | (go_at_call 15; (with_reducible refine (robot_any _ _).mono ?_); rintro e w5 ⟨rfl, h5⟩; rw [h5, HRB.out]; clear h5 w5) | fail)
      go_ret
      exact ⟨rfl, HB4.out⟩
    · have NM := Lib.hid (show ∀ W, Below w.heap.size w W → Calls Tryd.prog 14 #[.int .i64 15] W fun e w1 => e = .returned (.string ⟨#[114, 101, 110, 101, 119]⟩) ∧ Below w.heap.size w w1 from fun W hW => by
        have := NAM.out W hW
        rw [show str (nameOf 15) = ⟨#[114, 101, 110, 101, 119]⟩ from by rw [show nameOf 15 = [114, 101, 110, 101, 119] from by decide +kernel]; rfl] at this
        exact this)
      have HRB := Lib.hid (show M.isRobot 15 = true from by decide +kernel)
      clear hk ht NAM
      go_enter Tryd.func6, Tryd.ntmps6
      go_wp2_with (first | (go_at_call 9; (refine (ANS.out _ (HL.out _)).mono ?_); rintro e w3 ⟨rfl, hb3⟩; have HB3 := Lib.hid hb3; clear hb3) | (go_at_call 14; (refine (NM.out _ HB3.out).mono ?_); rintro e w4 ⟨rfl, hb4⟩; have HB4 := Lib.hid hb4; clear hb4) | (go_at_call 15; (with_reducible refine (robot_any _ _).mono ?_); rintro e w5 ⟨rfl, h5⟩; rw [h5, HRB.out]; clear h5 w5) | fail)
      go_ret
      exact ⟨rfl, HB4.out⟩
    · have NM := Lib.hid (show ∀ W, Below w.heap.size w W → Calls Tryd.prog 14 #[.int .i64 16] W fun e w1 => e = .returned (.string ⟨#[101, 118, 105, 99, 116]⟩) ∧ Below w.heap.size w w1 from fun W hW => by
        have := NAM.out W hW
        rw [show str (nameOf 16) = ⟨#[101, 118, 105, 99, 116]⟩ from by rw [show nameOf 16 = [101, 118, 105, 99, 116] from by decide +kernel]; rfl] at this
        exact this)
      have HRB := Lib.hid (show M.isRobot 16 = false from by decide +kernel)
      clear hk ht NAM
      go_enter Tryd.func6, Tryd.ntmps6
      go_wp2_with (first | (go_at_call 9; (refine (ANS.out _ (HL.out _)).mono ?_); rintro e w3 ⟨rfl, hb3⟩; have HB3 := Lib.hid hb3; clear hb3) | (go_at_call 14; (refine (NM.out _ HB3.out).mono ?_); rintro e w4 ⟨rfl, hb4⟩; have HB4 := Lib.hid hb4; clear hb4) | (go_at_call 15; (with_reducible refine (robot_any _ _).mono ?_); rintro e w5 ⟨rfl, h5⟩; rw [h5, HRB.out]; clear h5 w5) | fail)
      go_ret
      exact ⟨rfl, HB4.out⟩
  · have NM := Lib.hid (show ∀ W, Below w.heap.size w W → Calls Tryd.prog 14 #[.int .i64 n] W fun e w1 => e = .returned (.string ⟨#[]⟩) ∧ Below w.heap.size w w1 from fun W hW => by
      have := NAM.out W hW
      rw [show str (nameOf n) = ⟨#[]⟩ from by rw [show nameOf n = [] from by unfold nameOf; rw [if_neg (by simpa [M.kindOk] using hk)]]; rfl] at this
      exact this)
    have HRB := Lib.hid (show M.isRobot n = false from by simp [M.isRobot]; omega)
    have t1 : (n == 1) = false := by rw [beq_eq_false_iff_ne]; omega
    have t3 : (n == 3) = false := by rw [beq_eq_false_iff_ne]; omega
    have t9 : (n == 9) = false := by rw [beq_eq_false_iff_ne]; omega
    have t13 : (n == 13) = false := by rw [beq_eq_false_iff_ne]; omega
    have t15 : (n == 15) = false := by rw [beq_eq_false_iff_ne]; omega
    clear ht NAM
    by_cases h1 : 1 ≤ n
    · have h16 : ¬ n ≤ 16 := by omega
      go_enter Tryd.func6, Tryd.ntmps6
      go_wp2_with (first | (go_at_call 9; (refine (ANS.out _ (HL.out _)).mono ?_); rintro e w3 ⟨rfl, hb3⟩; have HB3 := Lib.hid hb3; clear hb3) | (go_at_call 14; (refine (NM.out _ HB3.out).mono ?_); rintro e w4 ⟨rfl, hb4⟩; have HB4 := Lib.hid hb4; clear hb4) | (go_at_call 15; (with_reducible refine (robot_any _ _).mono ?_); rintro e w5 ⟨rfl, h5⟩; rw [h5, HRB.out]; clear h5 w5) | fail)
      go_ret
      exact ⟨rfl, HB4.out⟩
    · go_enter Tryd.func6, Tryd.ntmps6
      go_wp2_with (first | (go_at_call 9; (refine (ANS.out _ (HL.out _)).mono ?_); rintro e w3 ⟨rfl, hb3⟩; have HB3 := Lib.hid hb3; clear hb3) | (go_at_call 14; (refine (NM.out _ HB3.out).mono ?_); rintro e w4 ⟨rfl, hb4⟩; have HB4 := Lib.hid hb4; clear hb4) | (go_at_call 15; (with_reducible refine (robot_any _ _).mono ?_); rintro e w5 ⟨rfl, h5⟩; rw [h5, HRB.out]; clear h5 w5) | fail)
      go_ret
      exact ⟨rfl, HB4.out⟩
end Go.Proofs.YtclgnginmgleaaaDoor
