/-
  The walk of the reference's Packet, 21 bytes long.
-/
import Derived.Test.YtclgnginmgleaaaDoorRefPacketRel
namespace Go.Proofs.YtclgnginmgleaaaDoor
open Go Go.RowKit Go.Sort

set_option maxRecDepth 100000 in
set_option maxHeartbeats 2000000 in
theorem refPacket_long0 (y : Nat → Nat) (b off c : Nat) (w : World) (h : ∀ W, Below w.heap.size w W → ∀ k, k < 21 → W.cell? ⟨b, off + k, none⟩ = some (.int .u8 (y k : Int))) (h0 : w.cell? ⟨b, off, none⟩ = some (.int .u8 1)) (hy : ∀ k, y k < 256)
    (R : Array Value) (E : Int) (r1 : M.kindOk (y 8 : Int) = false → R = #[.int .i64 0, .int .i64 0, .int .i64 0, .int .i64 0, .bool false, .int .i64 0, .int .i64 0, .int .i64 0, .int .i64 0] ∧ E = 4) (r2 : M.kindOk (y 8 : Int) = true → (longQ y).good = false → R = #[.int .i64 0, .int .i64 0, .int .i64 0, .int .i64 0, .bool false, .int .i64 0, .int .i64 0, .int .i64 0, .int .i64 0] ∧ E = 2) (r3 : M.kindOk (y 8 : Int) = true → (longQ y).good = true → R = packetV (longQ y) ∧ E = 0) :
    Calls Tryd.prog 13 #[.slice (some ⟨b, off, none⟩) 21 c] w fun e w' => e = .returned (.tuple #[.agg R, .int .i64 E]) ∧ Below w.heap.size w w' := by
  have hbl := cell_lt h0
  have CEL := Lib.hid (show ∀ W, Below w.heap.size w W → W.cell? ⟨b, off + 1, none⟩ = some (.int .u8 (y 1 : Int)) ∧ W.cell? ⟨b, off + 2, none⟩ = some (.int .u8 (y 2 : Int)) ∧ W.cell? ⟨b, off + 3, none⟩ = some (.int .u8 (y 3 : Int)) ∧ W.cell? ⟨b, off + 4, none⟩ = some (.int .u8 (y 4 : Int)) ∧ W.cell? ⟨b, off + 5, none⟩ = some (.int .u8 (y 5 : Int)) ∧ W.cell? ⟨b, off + 6, none⟩ = some (.int .u8 (y 6 : Int)) ∧ W.cell? ⟨b, off + 7, none⟩ = some (.int .u8 (y 7 : Int)) from fun W hW => ⟨h W hW 1 (by omega), h W hW 2 (by omega), h W hW 3 (by omega), h W hW 4 (by omega), h W hW 5 (by omega), h W hW 6 (by omega), h W hW 7 (by omega)⟩)
  have CELL := Lib.hid h
  have HY := Lib.hid hy
  have MAY := Lib.hid (fun W => mayPacket_any (longQ y) W)
  have R1 := Lib.hid r1
  have R2 := Lib.hid r2
  have R3 := Lib.hid r3
  have ATS := Lib.hid (show ∀ (A B : Array Value), (((w.alloc (.cells A 25)).alloc (.cells B 25)).alloc (.cells #[.int .i64 0, .int .i64 0, .int .i64 0] 39)).heap[w.heap.size + 2]? = some (.cells (ns y 0 0) 39 (0, 0)) ∧ (((w.alloc (.cells A 25)).alloc (.cells B 25)).alloc (.cells #[.int .i64 0, .int .i64 0, .int .i64 0] 39)).heap[w.heap.size + 1]? = some (.cells B 25 (0, 0)) ∧ (((w.alloc (.cells A 25)).alloc (.cells B 25)).alloc (.cells #[.int .i64 0, .int .i64 0, .int .i64 0] 39)).heap[w.heap.size]? = some (.cells A 25 (0, 0)) from fun A B => by
    refine ⟨?_, ?_, ?_⟩
    · rw [show ns y 0 0 = #[.int .i64 0, .int .i64 0, .int .i64 0] from by simp [ns, nAt, accN]]
      have := heap_alloc2_new (w.alloc (.cells A 25)) (.cells B 25) (.cells #[.int .i64 0, .int .i64 0, .int .i64 0] 39)
      simpa using this
    · rw [heap_alloc_old _ _ (by simp)]
      exact heap_alloc2_new _ _ _
    · rw [heap_alloc_old _ _ (by simp; omega)]
      exact heap_alloc2_old _ _ _)
  have v1 := wrapB (y 1) (hy 1)
  have v2 := wrapB (y 2) (hy 2)
  have v3 := wrapB (y 3) (hy 3)
  have v4 := wrapB (y 4) (hy 4)
  have v5 := wrapB (y 5) (hy 5)
  have v6 := wrapB (y 6) (hy 6)
  have v7 := wrapB (y 7) (hy 7)
  have u2 := wrapB2 (y 2) (hy 2)
  have u4 := wrapB2 (y 4) (hy 4)
  have u6 := wrapB2 (y 6) (hy 6)
  have t2 := wrapB3 (y 2) (y 3) (hy 2) (hy 3)
  have t4 := wrapB3 (y 4) (y 5) (hy 4) (hy 5)
  have t6 := wrapB3 (y 6) (y 7) (hy 6) (hy 7)
  clear h hy r1 r2 r3
  have W0 := Lib.hid (show Below w.heap.size w (w.alloc (.cells #[.int .i64 0, .int .i64 0, .int .i64 0, .int .i64 0, .bool false, .int .i64 0, .int .i64 0, .int .i64 0, .int .i64 0] 25)) from (Below.refl _ _).alloc (Nat.le_refl _) _)
  have W3 := Lib.hid (show ∀ A B C : Obj, Below w.heap.size w (((w.alloc A).alloc B).alloc C) from fun A B C => below3 w A B C)
  go_enter Tryd.func13, Tryd.ntmps13
  go_wp2_with fail
  have HA := Lib.hid (below_drew' W0.out)
  go_region_held3 (fun W => W.cell? ⟨b, off + 1, none⟩ = some (.int .u8 (y 1 : Int)) ∧ W.cell? ⟨b, off + 2, none⟩ = some (.int .u8 (y 2 : Int)) ∧ W.cell? ⟨b, off + 3, none⟩ = some (.int .u8 (y 3 : Int)) ∧ W.cell? ⟨b, off + 4, none⟩ = some (.int .u8 (y 4 : Int)) ∧ W.cell? ⟨b, off + 5, none⟩ = some (.int .u8 (y 5 : Int)) ∧ W.cell? ⟨b, off + 6, none⟩ = some (.int .u8 (y 6 : Int)) ∧ W.cell? ⟨b, off + 7, none⟩ = some (.int .u8 (y 7 : Int))) (first | exact CEL.out _ HA.out | exact CEL.out _ (below_drew' (W0.out.alloc W0.out.size _))) (fail)
  clear v1 v2 v3 v4 v5 v6 v7 u2 u4 u6 t2 t4 t6 CEL HA W0
  go_wp2_with fail
  go_loopw [6] (fun iv wr => ∃ i : Nat, i ≤ 3 ∧ iv = .int .i64 i ∧ LongRel y #[.int .i64 0, .int .i64 0, .int .i64 0, .int .i64 0, .bool false, .int .i64 0, .int .i64 0, .int .i64 0, .int .i64 0] #[.int .i64 (y 1 : Int), .int .i64 ((y 2 : Int) * 256 + (y 3 : Int)), .int .i64 ((y 4 : Int) * 256 + (y 5 : Int)), .int .i64 ((y 6 : Int) * 256 + (y 7 : Int)), .bool true, .int .i64 0, .int .i64 0, .int .i64 0, .int .i64 0] w i 0 wr) (fun iv _ => 3 - (intOf iv).toNat)
  case atStart =>
    exact ⟨0, by omega, rfl, (ATS.out _ _).1, (ATS.out _ _).2.1, (ATS.out _ _).2.2, below_drew' (W3.out _ _ _)⟩
  case round =>
    obtain ⟨i, hi, rfl, hrel⟩ := hrel
    have HREL := Lib.hid hrel
    clear hrel
    by_cases hi3 : i < 3
    · rcases (show i = 0 ∨ i = 1 ∨ i = 2 by omega) with rfl | rfl | rfl
      · go_wp2_with fail
        go_loopw [7] (fun kv wq => ∃ k : Nat, k ≤ 4 ∧ kv = .int .i64 k ∧ LongRel y #[.int .i64 0, .int .i64 0, .int .i64 0, .int .i64 0, .bool false, .int .i64 0, .int .i64 0, .int .i64 0, .int .i64 0] #[.int .i64 (y 1 : Int), .int .i64 ((y 2 : Int) * 256 + (y 3 : Int)), .int .i64 ((y 4 : Int) * 256 + (y 5 : Int)), .int .i64 ((y 6 : Int) * 256 + (y 7 : Int)), .bool true, .int .i64 0, .int .i64 0, .int .i64 0, .int .i64 0] w 0 k wq) (fun kv _ => 4 - (intOf kv).toNat)
        case atStart => exact ⟨0, by omega, rfl, HREL.out⟩
        case round =>
          obtain ⟨k, hk, rfl, hr⟩ := hrel
          have HR := Lib.hid hr
          clear hr
          rcases (show k = 0 ∨ k = 1 ∨ k = 2 ∨ k = 3 ∨ k = 4 by omega) with rfl | rfl | rfl | rfl | rfl
          · obtain ⟨A, B, bq, c1, f1, z1, c2, v1, v2, v3, nx⟩ := long_step y HY.out b off w _ _ _ 0 0 (by omega) (by omega) HR.out CELL.out hbl
            have NX := Lib.hid nx
            replace c2 : World.cell? _ ⟨b, off + 9, none⟩ = some (.int .u8 (B : Int)) := c2
            have wl0 : IntKind.i64.wrap 0 = 0 := by decide
            have wl9 : IntKind.i64.wrap 9 = 9 := by decide
            clear nx HR
            go_wp2_with fail
            go_still_tail 16, (by kernel_rfl)
            go_wp2
            exact ⟨⟨_, _, _, _, _, _, _, _, _, _, _, _, _, _, _, _, _, _, _, _, _, ⟨1, by omega, rfl, NX.out.drew⟩, rfl⟩, by simp [intOf]⟩
          · obtain ⟨A, B, bq, c1, f1, z1, c2, v1, v2, v3, nx⟩ := long_step y HY.out b off w _ _ _ 0 1 (by omega) (by omega) HR.out CELL.out hbl
            have NX := Lib.hid nx
            replace c2 : World.cell? _ ⟨b, off + 10, none⟩ = some (.int .u8 (B : Int)) := c2
            have wl0 : IntKind.i64.wrap 0 = 0 := by decide
            have wl9 : IntKind.i64.wrap 9 = 9 := by decide
            have wl10 : IntKind.i64.wrap 10 = 10 := by decide
            clear nx HR
            go_wp2_with fail
            go_still_tail 16, (by kernel_rfl)
            go_wp2
            exact ⟨⟨_, _, _, _, _, _, _, _, _, _, _, _, _, _, _, _, _, _, _, _, _, ⟨2, by omega, rfl, NX.out.drew⟩, rfl⟩, by simp [intOf]⟩
          · obtain ⟨A, B, bq, c1, f1, z1, c2, v1, v2, v3, nx⟩ := long_step y HY.out b off w _ _ _ 0 2 (by omega) (by omega) HR.out CELL.out hbl
            have NX := Lib.hid nx
            replace c2 : World.cell? _ ⟨b, off + 11, none⟩ = some (.int .u8 (B : Int)) := c2
            have wl0 : IntKind.i64.wrap 0 = 0 := by decide
            have wl9 : IntKind.i64.wrap 9 = 9 := by decide
            have wl11 : IntKind.i64.wrap 11 = 11 := by decide
            clear nx HR
            go_wp2_with fail
            go_still_tail 16, (by kernel_rfl)
            go_wp2
            exact ⟨⟨_, _, _, _, _, _, _, _, _, _, _, _, _, _, _, _, _, _, _, _, _, ⟨3, by omega, rfl, NX.out.drew⟩, rfl⟩, by simp [intOf]⟩
          · obtain ⟨A, B, bq, c1, f1, z1, c2, v1, v2, v3, nx⟩ := long_step y HY.out b off w _ _ _ 0 3 (by omega) (by omega) HR.out CELL.out hbl
            have NX := Lib.hid nx
            replace c2 : World.cell? _ ⟨b, off + 12, none⟩ = some (.int .u8 (B : Int)) := c2
            have wl0 : IntKind.i64.wrap 0 = 0 := by decide
            have wl9 : IntKind.i64.wrap 9 = 9 := by decide
            have wl12 : IntKind.i64.wrap 12 = 12 := by decide
            clear nx HR
            go_wp2_with fail
            go_still_tail 16, (by kernel_rfl)
            go_wp2
            exact ⟨⟨_, _, _, _, _, _, _, _, _, _, _, _, _, _, _, _, _, _, _, _, _, ⟨4, by omega, rfl, NX.out.drew⟩, rfl⟩, by simp [intOf]⟩
          · go_wp2_with fail
            exact ⟨⟨1, by omega, rfl, HR.out.next (by omega)⟩, by simp [intOf]⟩
      · go_wp2_with fail
        go_loopw [7] (fun kv wq => ∃ k : Nat, k ≤ 4 ∧ kv = .int .i64 k ∧ LongRel y #[.int .i64 0, .int .i64 0, .int .i64 0, .int .i64 0, .bool false, .int .i64 0, .int .i64 0, .int .i64 0, .int .i64 0] #[.int .i64 (y 1 : Int), .int .i64 ((y 2 : Int) * 256 + (y 3 : Int)), .int .i64 ((y 4 : Int) * 256 + (y 5 : Int)), .int .i64 ((y 6 : Int) * 256 + (y 7 : Int)), .bool true, .int .i64 0, .int .i64 0, .int .i64 0, .int .i64 0] w 1 k wq) (fun kv _ => 4 - (intOf kv).toNat)
        case atStart => exact ⟨0, by omega, rfl, HREL.out⟩
        case round =>
          obtain ⟨k, hk, rfl, hr⟩ := hrel
          have HR := Lib.hid hr
          clear hr
          rcases (show k = 0 ∨ k = 1 ∨ k = 2 ∨ k = 3 ∨ k = 4 by omega) with rfl | rfl | rfl | rfl | rfl
          · obtain ⟨A, B, bq, c1, f1, z1, c2, v1, v2, v3, nx⟩ := long_step y HY.out b off w _ _ _ 1 0 (by omega) (by omega) HR.out CELL.out hbl
            have NX := Lib.hid nx
            replace c2 : World.cell? _ ⟨b, off + 13, none⟩ = some (.int .u8 (B : Int)) := c2
            have wl4 : IntKind.i64.wrap 4 = 4 := by decide
            have wl13 : IntKind.i64.wrap 13 = 13 := by decide
            clear nx HR
            go_wp2_with fail
            go_still_tail 16, (by kernel_rfl)
            go_wp2
            exact ⟨⟨_, _, _, _, _, _, _, _, _, _, _, _, _, _, _, _, _, _, _, _, _, ⟨1, by omega, rfl, NX.out.drew⟩, rfl⟩, by simp [intOf]⟩
          · obtain ⟨A, B, bq, c1, f1, z1, c2, v1, v2, v3, nx⟩ := long_step y HY.out b off w _ _ _ 1 1 (by omega) (by omega) HR.out CELL.out hbl
            have NX := Lib.hid nx
            replace c2 : World.cell? _ ⟨b, off + 14, none⟩ = some (.int .u8 (B : Int)) := c2
            have wl4 : IntKind.i64.wrap 4 = 4 := by decide
            have wl13 : IntKind.i64.wrap 13 = 13 := by decide
            have wl14 : IntKind.i64.wrap 14 = 14 := by decide
            clear nx HR
            go_wp2_with fail
            go_still_tail 16, (by kernel_rfl)
            go_wp2
            exact ⟨⟨_, _, _, _, _, _, _, _, _, _, _, _, _, _, _, _, _, _, _, _, _, ⟨2, by omega, rfl, NX.out.drew⟩, rfl⟩, by simp [intOf]⟩
          · obtain ⟨A, B, bq, c1, f1, z1, c2, v1, v2, v3, nx⟩ := long_step y HY.out b off w _ _ _ 1 2 (by omega) (by omega) HR.out CELL.out hbl
            have NX := Lib.hid nx
            replace c2 : World.cell? _ ⟨b, off + 15, none⟩ = some (.int .u8 (B : Int)) := c2
            have wl4 : IntKind.i64.wrap 4 = 4 := by decide
            have wl13 : IntKind.i64.wrap 13 = 13 := by decide
            have wl15 : IntKind.i64.wrap 15 = 15 := by decide
            clear nx HR
            go_wp2_with fail
            go_still_tail 16, (by kernel_rfl)
            go_wp2
            exact ⟨⟨_, _, _, _, _, _, _, _, _, _, _, _, _, _, _, _, _, _, _, _, _, ⟨3, by omega, rfl, NX.out.drew⟩, rfl⟩, by simp [intOf]⟩
          · obtain ⟨A, B, bq, c1, f1, z1, c2, v1, v2, v3, nx⟩ := long_step y HY.out b off w _ _ _ 1 3 (by omega) (by omega) HR.out CELL.out hbl
            have NX := Lib.hid nx
            replace c2 : World.cell? _ ⟨b, off + 16, none⟩ = some (.int .u8 (B : Int)) := c2
            have wl4 : IntKind.i64.wrap 4 = 4 := by decide
            have wl13 : IntKind.i64.wrap 13 = 13 := by decide
            have wl16 : IntKind.i64.wrap 16 = 16 := by decide
            clear nx HR
            go_wp2_with fail
            go_still_tail 16, (by kernel_rfl)
            go_wp2
            exact ⟨⟨_, _, _, _, _, _, _, _, _, _, _, _, _, _, _, _, _, _, _, _, _, ⟨4, by omega, rfl, NX.out.drew⟩, rfl⟩, by simp [intOf]⟩
          · go_wp2_with fail
            exact ⟨⟨2, by omega, rfl, HR.out.next (by omega)⟩, by simp [intOf]⟩
      · go_wp2_with fail
        go_loopw [7] (fun kv wq => ∃ k : Nat, k ≤ 4 ∧ kv = .int .i64 k ∧ LongRel y #[.int .i64 0, .int .i64 0, .int .i64 0, .int .i64 0, .bool false, .int .i64 0, .int .i64 0, .int .i64 0, .int .i64 0] #[.int .i64 (y 1 : Int), .int .i64 ((y 2 : Int) * 256 + (y 3 : Int)), .int .i64 ((y 4 : Int) * 256 + (y 5 : Int)), .int .i64 ((y 6 : Int) * 256 + (y 7 : Int)), .bool true, .int .i64 0, .int .i64 0, .int .i64 0, .int .i64 0] w 2 k wq) (fun kv _ => 4 - (intOf kv).toNat)
        case atStart => exact ⟨0, by omega, rfl, HREL.out⟩
        case round =>
          obtain ⟨k, hk, rfl, hr⟩ := hrel
          have HR := Lib.hid hr
          clear hr
          rcases (show k = 0 ∨ k = 1 ∨ k = 2 ∨ k = 3 ∨ k = 4 by omega) with rfl | rfl | rfl | rfl | rfl
          · obtain ⟨A, B, bq, c1, f1, z1, c2, v1, v2, v3, nx⟩ := long_step y HY.out b off w _ _ _ 2 0 (by omega) (by omega) HR.out CELL.out hbl
            have NX := Lib.hid nx
            replace c2 : World.cell? _ ⟨b, off + 17, none⟩ = some (.int .u8 (B : Int)) := c2
            have wl8 : IntKind.i64.wrap 8 = 8 := by decide
            have wl17 : IntKind.i64.wrap 17 = 17 := by decide
            clear nx HR
            go_wp2_with fail
            go_still_tail 16, (by kernel_rfl)
            go_wp2
            exact ⟨⟨_, _, _, _, _, _, _, _, _, _, _, _, _, _, _, _, _, _, _, _, _, ⟨1, by omega, rfl, NX.out.drew⟩, rfl⟩, by simp [intOf]⟩
          · obtain ⟨A, B, bq, c1, f1, z1, c2, v1, v2, v3, nx⟩ := long_step y HY.out b off w _ _ _ 2 1 (by omega) (by omega) HR.out CELL.out hbl
            have NX := Lib.hid nx
            replace c2 : World.cell? _ ⟨b, off + 18, none⟩ = some (.int .u8 (B : Int)) := c2
            have wl8 : IntKind.i64.wrap 8 = 8 := by decide
            have wl17 : IntKind.i64.wrap 17 = 17 := by decide
            have wl18 : IntKind.i64.wrap 18 = 18 := by decide
            clear nx HR
            go_wp2_with fail
            go_still_tail 16, (by kernel_rfl)
            go_wp2
            exact ⟨⟨_, _, _, _, _, _, _, _, _, _, _, _, _, _, _, _, _, _, _, _, _, ⟨2, by omega, rfl, NX.out.drew⟩, rfl⟩, by simp [intOf]⟩
          · obtain ⟨A, B, bq, c1, f1, z1, c2, v1, v2, v3, nx⟩ := long_step y HY.out b off w _ _ _ 2 2 (by omega) (by omega) HR.out CELL.out hbl
            have NX := Lib.hid nx
            replace c2 : World.cell? _ ⟨b, off + 19, none⟩ = some (.int .u8 (B : Int)) := c2
            have wl8 : IntKind.i64.wrap 8 = 8 := by decide
            have wl17 : IntKind.i64.wrap 17 = 17 := by decide
            have wl19 : IntKind.i64.wrap 19 = 19 := by decide
            clear nx HR
            go_wp2_with fail
            go_still_tail 16, (by kernel_rfl)
            go_wp2
            exact ⟨⟨_, _, _, _, _, _, _, _, _, _, _, _, _, _, _, _, _, _, _, _, _, ⟨3, by omega, rfl, NX.out.drew⟩, rfl⟩, by simp [intOf]⟩
          · obtain ⟨A, B, bq, c1, f1, z1, c2, v1, v2, v3, nx⟩ := long_step y HY.out b off w _ _ _ 2 3 (by omega) (by omega) HR.out CELL.out hbl
            have NX := Lib.hid nx
            replace c2 : World.cell? _ ⟨b, off + 20, none⟩ = some (.int .u8 (B : Int)) := c2
            have wl8 : IntKind.i64.wrap 8 = 8 := by decide
            have wl17 : IntKind.i64.wrap 17 = 17 := by decide
            have wl20 : IntKind.i64.wrap 20 = 20 := by decide
            clear nx HR
            go_wp2_with fail
            go_still_tail 16, (by kernel_rfl)
            go_wp2
            exact ⟨⟨_, _, _, _, _, _, _, _, _, _, _, _, _, _, _, _, _, _, _, _, _, ⟨4, by omega, rfl, NX.out.drew⟩, rfl⟩, by simp [intOf]⟩
          · go_wp2_with fail
            exact ⟨⟨3, by omega, rfl, HR.out.next (by omega)⟩, by simp [intOf]⟩
    · obtain rfl : i = 3 := by omega
      obtain ⟨d0, d1, d2, zN, bq, zP, pc, pf⟩ := long_end y w wr _ _ HREL.out b hbl
      have e8 := CELL.out wr HREL.out.2.2.2 8 (by omega)
      have v8 := wrapB (y 8) (HY.out 8)
      have p5 := pc 5
      have p6 := pc 6
      have p7 := pc 7
      have p8 := pc 8
      have f5 := pf 5
      have f6 := pf 6
      have f7 := pf 7
      have f8 := pf 8
      simp at p5 p6 p7 p8
      have hu := Tryd.underlying23
      clear pc pf
      go_wp2_with fail
      go_still_tail 12, (by kernel_rfl)
      iterate 5 (try first | go_values | go_skip | go_guarded | go_step | go_upon)
      obtain ⟨w5, hw5⟩ : ∃ w5, w5 = ((((wr.setCell ⟨w.heap.size + 1, 5, none⟩ (.int .i64 (y 8 : Int))).setCell ⟨w.heap.size + 1, 6, none⟩ (.int .i64 (accN y 0 4))).setCell ⟨w.heap.size + 1, 7, none⟩ (.int .i64 (accN y 1 4))).setCell ⟨w.heap.size + 1, 8, none⟩ (.int .i64 (accN y 2 4))).drew := ⟨_, rfl⟩
      rw [← hw5]
      have ST := Lib.hid (long_store y _ w wr HREL.out w5 hw5)
      have k5 : w5.cell? ⟨w.heap.size + 1, 5, none⟩ = some (.int .i64 (y 8 : Int)) := by rw [cell_of_row w5 _ _ _ _ _ ST.out.1]; rfl
      have z5 : w.heap.size + 1 < w5.heap.size := (Array.getElem?_eq_some_iff.1 ST.out.1).1
      clear hw5 p5 p6 p7 p8 f5 f6 f7 f8 zP zN bq d0 d1 d2 e8 v8
      by_cases g1 : (y 8 : Int) < 1
      · have HE := Lib.hid (R1.out (by simp [M.kindOk]; omega))
        go_wp2_with (first | (refine wpList_store_row rfl rfl rfl rfl ST.out.2.1 size54 rfl (packetV_one ⟨_, _, _, _, _, ⟨_, _, _, _⟩⟩) ?_; intro w' s1 s2 s3; have S1 := Lib.hid s1; have S2 := Lib.hid s2; clear s1 s2 s3) | fail)
        exact bodyPost_ret (results_cell_tmp rfl _ _ w.heap.size _ _ _ _ rfl S1.out Tryd.underlying25 rfl info54) rfl ⟨by rw [HE.out.1, HE.out.2]; rfl, ST.out.2.2.trans (S2.out.belowB ST.out.2.2.size fun i hi h => by omega)⟩
      · by_cases g2 : 16 < (y 8 : Int)
        · have HE := Lib.hid (R1.out (by simp [M.kindOk]; omega))
          go_wp2_with (first | (refine wpList_store_row rfl rfl rfl rfl ST.out.2.1 size54 rfl (packetV_one ⟨_, _, _, _, _, ⟨_, _, _, _⟩⟩) ?_; intro w' s1 s2 s3; have S1 := Lib.hid s1; have S2 := Lib.hid s2; clear s1 s2 s3) | fail)
          exact bodyPost_ret (results_cell_tmp rfl _ _ w.heap.size _ _ _ _ rfl S1.out Tryd.underlying25 rfl info54) rfl ⟨by rw [HE.out.1, HE.out.2]; rfl, ST.out.2.2.trans (S2.out.belowB ST.out.2.2.size fun i hi h => by omega)⟩
        · have hk : M.kindOk (y 8 : Int) = true := by simp [M.kindOk]; omega
          have HK := Lib.hid hk
          have hmay := MAY.out
          rcases hg : (longQ y).good with _ | _
          · have HE := Lib.hid (R2.out hk hg)
            rw [hg] at hmay
            have MAYF := Lib.hid hmay
            clear hmay hg hk
            go_wp2_with (first | (go_at_call 8; (refine (MAYF.out _).mono ?_); rintro e W ⟨rfl, hW⟩; have Q := Lib.hid (long_after ST.out hW); clear hW) | (refine wpList_load_row rfl _ _ rfl _ rfl _ _ _ _ Q.out.1 Tryd.underlying25 rfl info54 ?_) | (refine wpList_load_row rfl _ _ rfl _ rfl _ _ _ _ ST.out.1 Tryd.underlying25 rfl info54 ?_) | (refine wpList_store_row rfl rfl rfl rfl Q.out.2.1 size54 rfl (packetV_one ⟨_, _, _, _, _, ⟨_, _, _, _⟩⟩) ?_; intro w' s1 s2 s3; have S1 := Lib.hid s1; have S2 := Lib.hid s2; clear s1 s2 s3) | fail)
            exact bodyPost_ret (results_cell_tmp rfl _ _ w.heap.size _ _ _ _ rfl S1.out Tryd.underlying25 rfl info54) rfl ⟨by rw [HE.out.1, HE.out.2]; rfl, Q.out.2.2.trans (S2.out.belowB Q.out.2.2.size fun i hi h => by omega)⟩
          · have HE := Lib.hid (R3.out hk hg)
            rw [hg] at hmay
            have MAYT := Lib.hid hmay
            clear hmay hg hk
            go_wp2_with (first | (go_at_call 8; (refine (MAYT.out _).mono ?_); rintro e W ⟨rfl, hW⟩; have Q := Lib.hid (long_after ST.out hW); clear hW) | (refine wpList_load_row rfl _ _ rfl _ rfl _ _ _ _ Q.out.1 Tryd.underlying25 rfl info54 ?_) | (refine wpList_load_row rfl _ _ rfl _ rfl _ _ _ _ ST.out.1 Tryd.underlying25 rfl info54 ?_) | (refine wpList_store_row rfl rfl rfl rfl Q.out.2.1 size54 rfl (packetV_one ⟨_, _, _, _, _, ⟨_, _, _, _⟩⟩) ?_; intro w' s1 s2 s3; have S1 := Lib.hid s1; have S2 := Lib.hid s2; clear s1 s2 s3) | fail)
            exact bodyPost_ret (results_cell_tmp rfl _ _ w.heap.size _ _ _ _ rfl S1.out Tryd.underlying25 rfl info54) rfl ⟨by rw [HE.out.1, HE.out.2]; rfl, Q.out.2.2.trans (S2.out.belowB Q.out.2.2.size fun i hi h => by omega)⟩
end Go.Proofs.YtclgnginmgleaaaDoor
