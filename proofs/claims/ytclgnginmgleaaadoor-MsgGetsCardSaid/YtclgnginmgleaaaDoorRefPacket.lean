/-
  The walk of the reference's Packet.
-/
import Derived.Test.YtclgnginmgleaaaDoorMsgPutsLaw
namespace Go.Proofs.YtclgnginmgleaaaDoor
open Go Go.RowKit Go.Sort

set_option maxRecDepth 100000 in
set_option maxHeartbeats 400000 in
theorem refPacket_none (l : List UInt8) (a : Option Addr) (c : Nat) (w : World) (h : Rd w 1 (.slice a l.length c) l.length (bvals l)) (hno : (l.length ≠ 8 ∧ l.length ≠ 21) ∨ l.getD 0 0 ≠ 1) :
    Calls Tryd.prog 13 #[.slice a l.length c] w fun e w' => e = .returned (.tuple #[.agg (packetV M.Packet.zero), .int .i64 2]) ∧ Below w.heap.size w w' := by
  obtain ⟨n, hn⟩ : ∃ n, n = l.length := ⟨_, rfl⟩
  rw [← hn] at h hno ⊢
  rw [show packetV M.Packet.zero = #[.int .i64 0, .int .i64 0, .int .i64 0, .int .i64 0, .bool false, .int .i64 0, .int .i64 0, .int .i64 0, .int .i64 0] from rfl]
  by_cases h8 : n = 8 ∨ n = 21
  · have hne : l.getD 0 0 ≠ 1 := by
      rcases hno with h | h
      · omega
      · exact h
    have hat := Rd.at_ (a := a) (c := c) (l := l) (by rw [← hn]; exact h) 0 (by omega)
    obtain ⟨b, off, rfl, hc⟩ := hat
    have hx : ((((l.getD 0 0).toNat : Nat) : Int) != 1) = true := by
      rw [bne_iff_ne]
      intro e; apply hne; apply UInt8.toNat_inj.1
      show (l.getD 0 0).toNat = 1
      omega
    have hbl := cell_lt hc
    generalize (l.getD 0 0).toNat = x at hc hx
    clear hno hne h hn
    rw [Nat.add_zero] at hc
    rcases h8 with rfl | rfl
    all_goals
      go_enter Tryd.func13, Tryd.ntmps13
      go_wp2_with fail
      exact bodyPost_ret (v := .tuple #[.agg #[.int .i64 0, .int .i64 0, .int .i64 0, .int .i64 0, .bool false, .int .i64 0, .int .i64 0, .int .i64 0, .int .i64 0], .int .i64 2]) (by simp [results, Tryd.results13, go_sem]) rfl ⟨rfl, (Below.refl _ _).alloc (Nat.le_refl _) _⟩
  · have t8 : (((n : Nat) : Int) != 8) = true := by rw [bne_iff_ne]; omega
    have t21 : (((n : Nat) : Int) != 21) = true := by rw [bne_iff_ne]; omega
    clear h hno hn h8
    go_enter Tryd.func13, Tryd.ntmps13
    go_wp2_with fail
    exact bodyPost_ret (v := .tuple #[.agg #[.int .i64 0, .int .i64 0, .int .i64 0, .int .i64 0, .bool false, .int .i64 0, .int .i64 0, .int .i64 0, .int .i64 0], .int .i64 2]) (by simp [results, Tryd.results13, go_sem]) rfl ⟨rfl, (Below.refl _ _).alloc (Nat.le_refl _) _⟩

/-- The bytes of a slice that is read, one by one. -/
theorem Rd.all {w : World} {a : Option Addr} {c : Nat} {l : List UInt8} (h : Rd w 1 (.slice a l.length c) l.length (bvals l)) (h0 : 0 < l.length) :
    ∃ b off, a = some ⟨b, off, none⟩ ∧ ∀ W, Below w.heap.size w W → ∀ k, k < l.length → W.cell? ⟨b, off + k, none⟩ = some (.int .u8 ((l.getD k 0).toNat : Int)) := by
  obtain ⟨b, off, rfl, hc⟩ := h.at_ 0 h0
  have hbl := cell_lt hc
  refine ⟨b, off, rfl, fun W hW k hk => ?_⟩
  obtain ⟨b', off', e, hc⟩ := h.at_ k hk
  simp only [Option.some.injEq, Addr.mk.injEq, and_true] at e
  obtain ⟨rfl, rfl⟩ := e
  rw [hW.cell (p := ⟨b, off + k, none⟩) hbl]; exact hc

theorem wrapB (y : Nat) (h : y < 256) : IntKind.i64.wrap (y : Int) = (y : Int) ∧ True := ⟨IntWalk.i64_in _ (by omega), trivial⟩
theorem wrapB2 (y : Nat) (h : y < 256) : IntKind.i64.wrap ((y : Int) * 256) = (y : Int) * 256 ∧ True := ⟨IntWalk.i64_in _ (by omega), trivial⟩
theorem wrapB3 (y z : Nat) (h : y < 256) (h' : z < 256) : IntKind.i64.wrap ((y : Int) * 256 + (z : Int)) = (y : Int) * 256 + (z : Int) ∧ True := ⟨IntWalk.i64_in _ (by omega), trivial⟩

set_option maxRecDepth 100000 in
set_option maxHeartbeats 1000000 in
theorem refPacket_short (x1 x2 x3 x4 x5 x6 x7 : Nat) (b off c : Nat) (w : World) (h : ∀ W, Below w.heap.size w W → W.cell? ⟨b, off + 1, none⟩ = some (.int .u8 (x1 : Int)) ∧ W.cell? ⟨b, off + 2, none⟩ = some (.int .u8 (x2 : Int)) ∧ W.cell? ⟨b, off + 3, none⟩ = some (.int .u8 (x3 : Int)) ∧ W.cell? ⟨b, off + 4, none⟩ = some (.int .u8 (x4 : Int)) ∧ W.cell? ⟨b, off + 5, none⟩ = some (.int .u8 (x5 : Int)) ∧ W.cell? ⟨b, off + 6, none⟩ = some (.int .u8 (x6 : Int)) ∧ W.cell? ⟨b, off + 7, none⟩ = some (.int .u8 (x7 : Int)))
    (h0 : w.cell? ⟨b, off, none⟩ = some (.int .u8 1)) (l1 : x1 < 256) (l2 : x2 < 256) (l3 : x3 < 256) (l4 : x4 < 256) (l5 : x5 < 256) (l6 : x6 < 256) (l7 : x7 < 256) :
    Calls Tryd.prog 13 #[.slice (some ⟨b, off, none⟩) 8 c] w fun e w' => e = .returned (.tuple #[.agg #[.int .i64 (x1 : Int), .int .i64 ((x2 : Int) * 256 + (x3 : Int)), .int .i64 ((x4 : Int) * 256 + (x5 : Int)), .int .i64 ((x6 : Int) * 256 + (x7 : Int)), .bool false, .int .i64 0, .int .i64 0, .int .i64 0, .int .i64 0], .int .i64 0]) ∧ Below w.heap.size w w' := by
  have hbl := cell_lt h0
  have CEL := Lib.hid h
  have v1 := wrapB x1 l1
  have v2 := wrapB x2 l2
  have v3 := wrapB x3 l3
  have v4 := wrapB x4 l4
  have v5 := wrapB x5 l5
  have v6 := wrapB x6 l6
  have v7 := wrapB x7 l7
  have u2 := wrapB2 x2 l2
  have u4 := wrapB2 x4 l4
  have u6 := wrapB2 x6 l6
  have t2 := wrapB3 x2 x3 l2 l3
  have t4 := wrapB3 x4 x5 l4 l5
  have t6 := wrapB3 x6 x7 l6 l7
  clear l1 l2 l3 l4 l5 l6 l7 h
  have W0 := Lib.hid (show Below w.heap.size w (w.alloc (.cells #[.int .i64 0, .int .i64 0, .int .i64 0, .int .i64 0, .bool false, .int .i64 0, .int .i64 0, .int .i64 0, .int .i64 0] 25)) from (Below.refl _ _).alloc (Nat.le_refl _) _)
  go_enter Tryd.func13, Tryd.ntmps13
  go_wp2_with fail
  have HA := Lib.hid (below_drew' W0.out)
  go_region_held3 (fun W => W.cell? ⟨b, off + 1, none⟩ = some (.int .u8 (x1 : Int)) ∧ W.cell? ⟨b, off + 2, none⟩ = some (.int .u8 (x2 : Int)) ∧ W.cell? ⟨b, off + 3, none⟩ = some (.int .u8 (x3 : Int)) ∧ W.cell? ⟨b, off + 4, none⟩ = some (.int .u8 (x4 : Int)) ∧ W.cell? ⟨b, off + 5, none⟩ = some (.int .u8 (x5 : Int)) ∧ W.cell? ⟨b, off + 6, none⟩ = some (.int .u8 (x6 : Int)) ∧ W.cell? ⟨b, off + 7, none⟩ = some (.int .u8 (x7 : Int))) (first | exact CEL.out _ HA.out | exact CEL.out _ (below_drew' (W0.out.alloc W0.out.size _))) (fail)
  all_goals
    go_wp2_with fail
    exact bodyPost_ret (v := .tuple #[.agg #[.int .i64 (x1 : Int), .int .i64 ((x2 : Int) * 256 + (x3 : Int)), .int .i64 ((x4 : Int) * 256 + (x5 : Int)), .int .i64 ((x6 : Int) * 256 + (x7 : Int)), .bool false, .int .i64 0, .int .i64 0, .int .i64 0, .int .i64 0], .int .i64 0]) (by simp [results, Tryd.results13, go_sem]) rfl ⟨rfl, below_drew' (((Below.refl _ _).alloc (Nat.le_refl _) _).alloc (by simp) _)⟩
end Go.Proofs.YtclgnginmgleaaaDoor
