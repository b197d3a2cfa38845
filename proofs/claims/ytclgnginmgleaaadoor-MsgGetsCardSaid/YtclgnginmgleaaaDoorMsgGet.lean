/-
  Walks of package msg: the packet of bytes.
-/
import Derived.Test.YtclgnginmgleaaaDoorMsgPut
namespace Go.Proofs.YtclgnginmgleaaaDoor
open Go Go.RowKit Go.Sort

theorem ofInt_i64 (a : Nat) (ha : a < 9223372036854775808) : (BitVec.ofInt 64 (a : Int)).toNat = a := by
  rw [BitVec.ofInt_natCast, BitVec.toNat_ofNat]; exact Nat.mod_eq_of_lt (by omega)
theorem i64_or_nat (a b : Nat) (ha : a < 9223372036854775808) (hb : b < 9223372036854775808) : bits .or .i64 (a : Int) (b : Int) = ((a ||| b : Nat) : Int) := by
  have hx : a ||| b < 2 ^ 63 := Nat.or_lt_two_pow (by omega) (by omega)
  show IntKind.i64.wrap ((BitVec.ofInt 64 (a : Int) ||| BitVec.ofInt 64 (b : Int)).toNat : Int) = _
  rw [BitVec.toNat_or, ofInt_i64 a ha, ofInt_i64 b hb, IntKind.wrap_i64]
  omega
theorem or_byte (n : Int) (x : Nat) (h0 : 0 ≤ n) (h1 : n < 16777216) (hx : x < 256) : bits .or .i64 (n * 256) (x : Int) = n * 256 + (x : Int) := by
  obtain ⟨m, rfl⟩ := Int.eq_ofNat_of_zero_le h0
  have e : ((m : Int) * (256 : Int)) = ((m <<< 8 : Nat) : Int) := by rw [Nat.shiftLeft_eq, Int.natCast_mul]; rfl
  rw [e, i64_or_nat _ _ (by rw [Nat.shiftLeft_eq]; omega) (by omega), ← Nat.shiftLeft_add_eq_or_of_lt (by omega), Int.natCast_add]

theorem below_drew' {B : Nat} {a w : World} (h : Below B a w) : Below B a w.drew := ⟨h.os, h.tape, h.output, h.size, h.block⟩

theorem numberOf_snoc (l : List UInt8) (x : UInt8) : M.numberOf (l ++ [x]) = M.numberOf l * 256 + x.toNat := by simp [M.numberOf]
theorem numberOf_range (l : List UInt8) : 0 ≤ M.numberOf l ∧ M.numberOf l < 256 ^ l.length := by
  have key : ∀ (k : Nat) (l : List UInt8), l.length = k → 0 ≤ M.numberOf l ∧ M.numberOf l < 256 ^ k := by
    intro k
    induction k with
    | zero => intro l hl; rw [List.length_eq_zero_iff] at hl; subst hl; simp [M.numberOf]
    | succ k ih =>
      intro l hl
      obtain ⟨q, x, rfl⟩ : ∃ q x, l = q ++ [x] := ⟨l.dropLast, l.getLast (by intro h; rw [h] at hl; cases hl), (List.dropLast_concat_getLast _).symm⟩
      have := ih q (by simpa using hl)
      rw [numberOf_snoc, Int.pow_succ]
      have := x.toNat_lt
      omega
  exact key _ l rfl

/-- A byte of a slice that is read. -/
theorem Rd.at_ {w : World} {a : Option Addr} {c : Nat} {l : List UInt8} (h : Rd w 1 (.slice a l.length c) l.length (bvals l)) (k : Nat) (hk : k < l.length) :
    ∃ b off, a = some ⟨b, off, none⟩ ∧ w.cell? ⟨b, off + k, none⟩ = some (.int .u8 ((l.getD k 0).toNat : Int)) := by
  obtain ⟨_, ⟨_, _, h0, _⟩ | ⟨b, off, cap, hv, _, h1, h2, hc⟩⟩ := h
  · omega
  · simp only [Value.slice.injEq, true_and] at hv
    obtain ⟨rfl, rfl⟩ := hv
    refine ⟨b, off, rfl, ?_⟩
    rw [hc k _ (bvals_get l k hk), List.getD_eq_getElem?_getD, List.getElem?_eq_getElem hk]; rfl

set_option maxRecDepth 100000 in
set_option maxHeartbeats 400000 in
theorem number_any (l : List UInt8) (a : Option Addr) (c : Nat) (w : World) (h : Rd w 1 (.slice a l.length c) l.length (bvals l)) (hl : l.length ≤ 4) :
    Calls Tryd.prog 20 #[.slice a l.length c] w fun e w' => e = .returned (.int .i64 (M.numberOf l)) ∧ w' = w := by
  have HR := Lib.hid h
  clear h
  go_enter Tryd.func20, Tryd.ntmps20
  go_wp2_with fail
  go_loop [3, 8] (fun n i => ∃ k : Nat, k ≤ l.length ∧ i = .int .i64 k ∧ n = .int .i64 (M.numberOf (l.take k))) (fun _ i => l.length - (intOf i).toNat)
  case atStart => exact ⟨0, Nat.zero_le _, rfl, rfl⟩
  case round =>
    obtain ⟨k, hk, rfl, rfl⟩ := hrel
    by_cases hlt : k < l.length
    · obtain ⟨b, off, rfl, hc⟩ := HR.out.at_ k hlt
      have hs : l.take (k + 1) = l.take k ++ [l.getD k 0] := by
        rw [List.take_succ_eq_append_getElem hlt, List.getD_eq_getElem?_getD, List.getElem?_eq_getElem hlt]; rfl
      have hx := (l.getD k 0).toNat_lt
      have hr := numberOf_range (l.take k)
      have hkl : (l.take k).length = k := by rw [List.length_take]; omega
      rw [hkl] at hr
      have hr3 : M.numberOf (l.take k) < 16777216 := by
        have : (256 : Int) ^ k ≤ 16777216 := by
          rcases (show k = 0 ∨ k = 1 ∨ k = 2 ∨ k = 3 by omega) with rfl | rfl | rfl | rfl <;> decide
        omega
      have HS := Lib.hid (show M.numberOf (l.take (k + 1)) = M.numberOf (l.take k) * 256 + ((l.getD k 0).toNat : Int) by rw [hs, numberOf_snoc])
      clear hs hkl
      generalize M.numberOf (l.take k) = n at *
      generalize (l.getD k 0).toNat = x at *
      have n0 : 0 ≤ n := hr.1
      have x0 : (x : Int) < 256 := by omega
      have i1 : (k : Int) < (l.length : Int) := by omega
      have i2 : (0 : Int) ≤ (k : Int) := by omega
      clear hr hx
      go_wp2_with fail
      go_round
      case rel =>
        exact ⟨k + 1, by omega, by go_num, by rw [HS.out, or_byte n x n0 hr3 (by omega)]⟩
      case measure => simp [intOf]; omega
    · have i1 : ¬ (k : Int) < (l.length : Int) := by omega
      go_wp2_with fail
      go_ret
      rw [List.take_of_length_le (by omega)]
      exact ⟨rfl, rfl⟩


/-- The byte that tells a packet's version is another one, or their count is. -/
theorem msgGet_none (l : List UInt8) (n : Nat) (a : Option Addr) (c : Nat) (w : World) (hn : l.length = n) (h : Rd w 1 (.slice a n c) n (bvals l)) (hno : (n ≠ 8 ∧ n ≠ 21) ∨ l.getD 0 0 ≠ 1) :
    Calls Tryd.prog 11 #[.slice a n c] w fun e w' => e = .returned (.tuple #[.agg (packetV M.Packet.zero), .int .i64 2]) ∧ Below w.heap.size w w' := by
  rw [show packetV M.Packet.zero = #[.int .i64 0, .int .i64 0, .int .i64 0, .int .i64 0, .bool false, .int .i64 0, .int .i64 0, .int .i64 0, .int .i64 0] from rfl]
  by_cases h8 : n = 8 ∨ n = 21
  · have hne : l.getD 0 0 ≠ 1 := by
      rcases hno with h | h
      · omega
      · exact h
    have hat := Rd.at_ (a := a) (c := c) (l := l) (by rw [hn]; exact h) 0 (by omega)
    obtain ⟨b, off, rfl, hc⟩ := hat
    have hx : ((((l.getD 0 0).toNat : Nat) : Int) != 1) = true := by
      rw [bne_iff_ne]
      intro e; apply hne; apply UInt8.toNat_inj.1
      show (l.getD 0 0).toNat = 1
      omega
    have hbl := cell_lt hc
    generalize (l.getD 0 0).toNat = x at hc hx
    clear hno hne h hn
    rw [Nat.add_zero] at hc
    rcases h8 with rfl | rfl
    all_goals
      go_enter Tryd.func11, Tryd.ntmps11
      go_wp2_with fail
      exact bodyPost_ret (v := .tuple #[.agg #[.int .i64 0, .int .i64 0, .int .i64 0, .int .i64 0, .bool false, .int .i64 0, .int .i64 0, .int .i64 0, .int .i64 0], .int .i64 2]) (by simp [results, Tryd.results11, go_sem]) rfl ⟨rfl, (Below.refl _ _).alloc (Nat.le_refl _) _⟩
  · have t8 : (((n : Nat) : Int) != 8) = true := by rw [bne_iff_ne]; omega
    have t21 : (((n : Nat) : Int) != 21) = true := by rw [bne_iff_ne]; omega
    clear h hno hn h8
    go_enter Tryd.func11, Tryd.ntmps11
    go_wp2_with fail
    exact bodyPost_ret (v := .tuple #[.agg #[.int .i64 0, .int .i64 0, .int .i64 0, .int .i64 0, .bool false, .int .i64 0, .int .i64 0, .int .i64 0, .int .i64 0], .int .i64 2]) (by simp [results, Tryd.results11, go_sem]) rfl ⟨rfl, (Below.refl _ _).alloc (Nat.le_refl _) _⟩

set_option maxRecDepth 100000 in
set_option maxHeartbeats 1000000 in
theorem msgGet_short (l : List UInt8) (a : Option Addr) (c : Nat) (w : World) (hn : l.length = 8) (h : Rd w 1 (.slice a 8 c) 8 (bvals l)) (h1 : l.getD 0 0 = 1) :
    Calls Tryd.prog 11 #[.slice a 8 c] w fun e w' => e = .returned (.tuple #[.agg (packetV (M.shortOf l)), .int .i64 0]) ∧ Below w.heap.size w w' := by
  have hR : Rd w 1 (.slice a l.length c) l.length (bvals l) := by rw [hn]; exact h
  obtain ⟨b, off, rfl, hc0⟩ := hR.at_ 0 (by omega)
  have hbl := cell_lt hc0
  have hcc : 8 ≤ c ∧ c ≤ maxLen := by
    obtain ⟨_, ⟨_, _, h0, _⟩ | ⟨_, _, cap, hv, _, h2, h3, _⟩⟩ := h
    · omega
    · simp only [Value.slice.injEq] at hv
      omega
  rw [h1, Nat.add_zero] at hc0
  have hc0' : w.cell? ⟨b, off, none⟩ = some (.int .u8 1) := hc0
  have CEL := Lib.hid (show ∀ W, Below w.heap.size w W → W.cell? ⟨b, off + 1, none⟩ = some (.int .u8 ((l.getD 1 0).toNat : Int)) from fun W hW => by
    obtain ⟨b', off', e, hc⟩ := hR.at_ 1 (by omega)
    simp only [Option.some.injEq, Addr.mk.injEq, and_true] at e
    obtain ⟨rfl, rfl⟩ := e
    rw [hW.cell (p := ⟨b, off + 1, none⟩) hbl]; exact hc)
  have NUM := Lib.hid (show ∀ (i : Nat) (W : World), i + 2 ≤ 8 → 2 ≤ i → Below w.heap.size w W → Calls Tryd.prog 20 #[.slice (some ⟨b, off + i, none⟩) 2 (c - i)] W fun e w' => e = .returned (.int .i64 (M.numberOf ((l.drop i).take 2))) ∧ w' = W from fun i W hi _ hW => by
    have hr := Rd.win (hR.below hW) i 2 (c - i) (by omega) (by omega) (by omega)
    have hl2 : ((l.drop i).take 2).length = 2 := by simp; omega
    have := number_any ((l.drop i).take 2) (some ⟨b, off + i, none⟩) (c - i) W (by rw [hl2]; exact hr) (by omega)
    rw [hl2] at this; exact this)
  have hsv : packetV (M.shortOf l) = #[.int .i64 ((l.getD 1 0).toNat : Int), .int .i64 (M.numberOf ((l.drop 2).take 2)), .int .i64 (M.numberOf ((l.drop 4).take 2)), .int .i64 (M.numberOf ((l.drop 6).take 2)), .bool false, .int .i64 0, .int .i64 0, .int .i64 0, .int .i64 0] := rfl
  rw [hsv]
  have hx1 := (l.getD 1 0).toNat_lt
  clear hsv hR h hc0 h1 hn
  generalize (l.getD 1 0).toNat = x1 at *
  have x1w : IntKind.i64.wrap (x1 : Int) = (x1 : Int) ∧ True := ⟨IntWalk.i64_in _ (by omega), trivial⟩
  have j1 : (8 : Int) ≤ (c : Int) := by omega
  have j2 : (4 : Int) ≤ (c : Int) := by omega
  have j3 : (6 : Int) ≤ (c : Int) := by omega
  have k1 : ¬ c = 2 := by omega
  have k2 : ¬ c = 4 := by omega
  have k3 : ¬ c = 6 := by omega
  have HCC := Lib.hid hcc
  clear hcc
  have W0 := Lib.hid (show Below w.heap.size w (w.alloc (.cells #[.int .i64 0, .int .i64 0, .int .i64 0, .int .i64 0, .bool false, .int .i64 0, .int .i64 0, .int .i64 0, .int .i64 0] 25)) from (Below.refl _ _).alloc (Nat.le_refl _) _)
  go_enter Tryd.func11, Tryd.ntmps11
  go_wp2_with fail
  have HA := Lib.hid (below_drew' W0.out)
  have HB := Lib.hid (below_drew' (W0.out.alloc W0.out.size (.cells #[.int .i64 0, .int .i64 0, .int .i64 0, .int .i64 0, .bool false, .int .i64 0, .int .i64 0, .int .i64 0, .int .i64 0] 25)))
  go_region_held3 (fun W => W.cell? ⟨b, off + 1, none⟩ = some (.int .u8 (x1 : Int))) (first | exact CEL.out _ HA.out | exact CEL.out _ (below_drew' (W0.out.alloc W0.out.size _))) (first | (go_at_call 20; refine (NUM.out _ _ ?_ ?_ ?_).mono ?_; omega; omega; (first | exact HA.out | exact HB.out); rintro e W ⟨rfl, rfl⟩))
  all_goals
    go_wp2_with fail
    exact bodyPost_ret (v := .tuple #[.agg #[.int .i64 (x1 : Int), .int .i64 (M.numberOf ((l.drop 2).take 2)), .int .i64 (M.numberOf ((l.drop 4).take 2)), .int .i64 (M.numberOf ((l.drop 6).take 2)), .bool false, .int .i64 0, .int .i64 0, .int .i64 0, .int .i64 0], .int .i64 0]) (by simp [results, Tryd.results11, go_sem]) rfl ⟨rfl, below_drew' (((Below.refl _ _).alloc (Nat.le_refl _) _).alloc (by simp) _)⟩
end Go.Proofs.YtclgnginmgleaaaDoor
