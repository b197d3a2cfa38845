/-
  Walks of the reference's packets.
-/
import Derived.Test.YtclgnginmgleaaaDoorMsgLong
namespace Go.Proofs.YtclgnginmgleaaaDoor
open Go Go.RowKit Go.Sort

/-- May a message be, in the reference's words? -/
def mayMsg (k a b c : Int) : Bool := M.kindOk k && (M.inside 2147483647 a && M.inside 2147483647 b && M.inside 2147483647 c)

theorem ret_bool {a b : Bool} (h : a = b) : Ending.returned (.bool a) = .returned (.bool b) := by rw [h]

set_option maxRecDepth 100000 in
set_option maxHeartbeats 1000000 in
theorem mayMsg_any (k a b c : Int) (w : World) : Calls Tryd.prog 17 #[.agg #[.int .i64 k, .int .i64 a, .int .i64 b, .int .i64 c]] w fun e w' => e = .returned (.bool (mayMsg k a b c)) ∧ Below w.heap.size w w' := by
  go_enter Tryd.func17, Tryd.ntmps17
  go_wp2
  all_goals
    go_ret
    refine ⟨ret_bool ?_, (Below.refl _ _).alloc (Nat.le_refl _) _⟩
    simp only [mayMsg, M.kindOk, M.inside]
    rw [Bool.eq_iff_iff]
    simp only [Bool.and_eq_true, decide_eq_true_eq, Bool.false_eq_true, false_iff, iff_false, true_iff]
    omega

set_option maxRecDepth 100000 in
set_option maxHeartbeats 1000000 in
theorem refNum_any (n : Int) (w : World) (h0 : 0 ≤ n) (h1 : n ≤ 2147483647) : Calls Tryd.prog 21 #[.int .i64 n] w fun e w' => e = .returned (.slice (some ⟨w.heap.size, 0, none⟩) 4 4) ∧ w' = w.alloc (.cells (bvals (M.be4 n)).toArray 5) := by
  have e3 : bvals (M.be4 n) = [.int .u8 (n / 16777216 % 256), .int .u8 (n / 65536 % 256), .int .u8 (n / 256 % 256), .int .u8 (n % 256)] := by
    simp only [bvals, M.be4, List.map_cons, List.map_nil, byteOf_toNat]
  rw [e3]
  clear e3
  go_enter Tryd.func21, Tryd.ntmps21
  go_wp2
  go_ret
  exact ⟨rfl, rfl⟩

/-- A literal's row of bytes is one's own. -/
theorem refNumSl (n : Int) (w : World) (h0 : 0 ≤ n) (h1 : n ≤ 2147483647) : Calls Tryd.prog 21 #[.int .i64 n] w fun e w' => ∃ A C, e = .returned (.slice A 4 C) ∧ Src Tryd.prog 1 26 (.slice A 4 C) 4 (bvals (M.be4 n)) w' ∧ Below w.heap.size w w' := by
  refine (refNum_any n w h0 h1).mono ?_
  rintro e w' ⟨rfl, rfl⟩
  exact ⟨_, _, rfl, (lit_sl (w := w) (e := 5) (bvals (M.be4 n)) 4 rfl (by omega) (by omega)).src (bvals_one _) under22, (Below.refl _ _).alloc (Nat.le_refl _) _⟩

set_option maxRecDepth 100000 in
set_option maxHeartbeats 2000000 in
theorem mayPacket_any (p : M.Packet) (w : World) : Calls Tryd.prog 8 #[.agg (packetV p)] w fun e w' => e = .returned (.bool p.good) ∧ Below w.heap.size w w' := by
  obtain ⟨s, ep, sq, ak, has, ⟨k, a, b, c⟩⟩ := p
  unfold packetV
  simp only
  rw [good_eq]
  have MM := Lib.hid (mayMsg_any k a b c)
  by_cases h : (0 ≤ s ∧ s ≤ 255) ∧ (0 ≤ ep ∧ ep ≤ 65535) ∧ (0 ≤ sq ∧ sq ≤ 65535) ∧ 0 ≤ ak ∧ ak ≤ 65535
  · obtain ⟨⟨s0, s1⟩, ⟨e0, e1⟩, ⟨q0, q1⟩, k0, k1⟩ := h
    have hin : M.inside 255 s = true ∧ M.inside 65535 ep = true ∧ M.inside 65535 sq = true ∧ M.inside 65535 ak = true := by simp [M.inside]; omega
    rw [hin.1, hin.2.1, hin.2.2.1, hin.2.2.2]
    clear hin
    have n1 : ¬ s < 0 := by omega
    have n2 : ¬ 255 < s := by omega
    have n3 : ¬ ep < 0 := by omega
    have n4 : ¬ 65535 < ep := by omega
    have n5 : ¬ sq < 0 := by omega
    have n6 : ¬ 65535 < sq := by omega
    have n7 : ¬ ak < 0 := by omega
    have n8 : ¬ 65535 < ak := by omega
    cases has
    · go_enter Tryd.func8, Tryd.ntmps8
      go_wp2
      all_goals
        go_ret
        exact ⟨by simp [*], (Below.refl _ _).alloc (Nat.le_refl _) _⟩
    · go_enter Tryd.func8, Tryd.ntmps8
      go_wp2_with (first | (go_at_call 17; (with_reducible refine (MM.out _).mono ?_); rintro e W ⟨rfl, hW⟩) | fail)
      go_ret
      exact ⟨by simp [mayMsg], ((Below.refl _ _).alloc (Nat.le_refl _) _).trans (hW.mono (by simp))⟩
  · have hno : (M.inside 255 s && (M.inside 65535 ep && M.inside 65535 sq && M.inside 65535 ak)) = false := by
      rw [Bool.eq_false_iff]; intro hh; apply h
      simp only [M.inside, Bool.and_eq_true, decide_eq_true_eq] at hh
      omega
    rw [← Bool.and_assoc, hno, Bool.false_and]
    clear hno
    go_enter Tryd.func8, Tryd.ntmps8
    go_wp2_with fail
    all_goals
      go_ret
      exact ⟨rfl, (Below.refl _ _).alloc (Nat.le_refl _) _⟩

set_option maxRecDepth 100000 in
set_option maxHeartbeats 2000000 in
theorem refBytes_any (p : M.Packet) (w : World) (hg : p.good = true) : Calls Tryd.prog 12 #[.agg (packetV p)] w fun e w' => Below w.heap.size w w' ∧ ∃ v blk, e = .returned v ∧ Sl w' 1 v blk p.bytes.length (bvals p.bytes) ∧ ∀ b, blk = some b → w.heap.size ≤ b := by
  obtain ⟨s, ep, sq, ak, has, ⟨k, a, b, c⟩⟩ := p
  unfold packetV
  simp only
  rw [good_eq] at hg
  simp only [Bool.and_eq_true] at hg
  obtain ⟨r0, ⟨⟨r1, r2⟩, r3⟩, r4⟩ := hg
  obtain ⟨s0, s1⟩ := inside_range r0
  obtain ⟨e0, e1⟩ := inside_range r1
  obtain ⟨q0, q1⟩ := inside_range r2
  obtain ⟨k0, k1⟩ := inside_range r3
  have R4 := Lib.hid r4
  clear r0 r1 r2 r3 r4
  obtain ⟨hh, hhe⟩ : ∃ hh : List UInt8, hh = [1, M.byteOf s] ++ M.be2 ep ++ M.be2 sq ++ M.be2 ak := ⟨_, rfl⟩
  have hhv : bvals hh = [.int .u8 1, .int .u8 s, .int .u8 (ep / 256), .int .u8 (ep % 256), .int .u8 (sq / 256), .int .u8 (sq % 256), .int .u8 (ak / 256), .int .u8 (ak % 256)] := by
    have e1 : s % 256 = s := by omega
    have e2 : ep / 256 % 256 = ep / 256 := by omega
    have e3 : sq / 256 % 256 = sq / 256 := by omega
    have e4 : ak / 256 % 256 = ak / 256 := by omega
    rw [hhe]
    simp [bvals, M.be2, byteOf_toNat, e1, e2, e3, e4]
  have i1 : ep / 256 < 256 := by omega
  have i2 : sq / 256 < 256 := by omega
  have i3 : ak / 256 < 256 := by omega
  have HHE := Lib.hid hhe
  have HHV := Lib.hid hhv
  clear hhe hhv
  cases has
  · have hby : (⟨s, ep, sq, ak, false, ⟨k, a, b, c⟩⟩ : M.Packet).bytes = hh := by rw [HHE.out]; simp [M.Packet.bytes]
    rw [hby, show hh.length = 8 by rw [HHE.out]; rfl, HHV.out]
    clear hby
    go_enter Tryd.func12, Tryd.ntmps12
    go_wp2
    go_ret
    refine ⟨((Below.refl _ _).alloc (Nat.le_refl _) _).alloc (by simp) _, _, some (w.heap.size + 1), rfl, ?_, fun b hb => by obtain rfl := Option.some.inj hb; omega⟩
    have := lit_sl (w := w.alloc (.cells #[.int .i64 s, .int .i64 ep, .int .i64 sq, .int .i64 ak, .bool false, .int .i64 k, .int .i64 a, .int .i64 b, .int .i64 c] 25)) (e := 5) [.int .u8 1, .int .u8 s, .int .u8 (ep / 256), .int .u8 (ep % 256), .int .u8 (sq / 256), .int .u8 (sq % 256), .int .u8 (ak / 256), .int .u8 (ak % 256)] 8 rfl (by omega) (by omega)
    rw [show (w.alloc (.cells #[.int .i64 s, .int .i64 ep, .int .i64 sq, .int .i64 ak, .bool false, .int .i64 k, .int .i64 a, .int .i64 b, .int .i64 c] 25)).heap.size = w.heap.size + 1 by simp] at this
    exact this
  · have r5 : M.kindOk k = true ∧ ((M.inside 2147483647 a = true ∧ M.inside 2147483647 b = true) ∧ M.inside 2147483647 c = true) := by
      have := R4.out; simpa [and_assoc] using this
    obtain ⟨g0, g1⟩ : 1 ≤ k ∧ k ≤ 16 := by have := r5.1; simpa [M.kindOk] using this
    have NA := Lib.hid (fun W => refNumSl a W (inside_range r5.2.1.1).1 (inside_range r5.2.1.1).2)
    have NB := Lib.hid (fun W => refNumSl b W (inside_range r5.2.1.2).1 (inside_range r5.2.1.2).2)
    have NC := Lib.hid (fun W => refNumSl c W (inside_range r5.2.2).1 (inside_range r5.2.2).2)
    clear r5
    obtain ⟨h9, hh9⟩ : ∃ h9 : List UInt8, h9 = hh ++ [M.byteOf k] := ⟨_, rfl⟩
    have hby : (⟨s, ep, sq, ak, true, ⟨k, a, b, c⟩⟩ : M.Packet).bytes = h9 ++ M.be4 a ++ M.be4 b ++ M.be4 c := by rw [hh9, HHE.out]; simp [M.Packet.bytes]
    have hv9 : bvals hh ++ [.int .u8 k] = bvals h9 := by
      rw [hh9, bvals_append]
      have : ((M.byteOf k).toNat : Int) = k := by rw [byteOf_toNat]; omega
      simp [bvals, this]
    rw [hby, show (h9 ++ M.be4 a ++ M.be4 b ++ M.be4 c).length = 21 by rw [hh9, HHE.out]; rfl, bvals_append, bvals_append, bvals_append]
    obtain ⟨w0, hw0⟩ : ∃ w0, w0 = w.alloc (.cells #[.int .i64 s, .int .i64 ep, .int .i64 sq, .int .i64 ak, .bool true, .int .i64 k, .int .i64 a, .int .i64 b, .int .i64 c] 25) := ⟨_, rfl⟩
    have hz0 : w0.heap.size = w.heap.size + 1 := by rw [hw0]; simp
    have CEL := Lib.hid (show ∀ W, Below w0.heap.size w0 W → W.cell? ⟨w.heap.size, 6, none⟩ = some (.int .i64 a) ∧ W.cell? ⟨w.heap.size, 7, none⟩ = some (.int .i64 b) ∧ W.cell? ⟨w.heap.size, 8, none⟩ = some (.int .i64 c) from fun W hW => by
      rw [hw0] at hW
      exact ⟨box_cell hW 6 _ rfl, box_cell hW 7 _ rfl, box_cell hW 8 _ rfl⟩)
    have hbL : Below w0.heap.size w0 (w0.alloc (.cells #[.int .u8 1, .int .u8 s, .int .u8 (ep / 256), .int .u8 (ep % 256), .int .u8 (sq / 256), .int .u8 (sq % 256), .int .u8 (ak / 256), .int .u8 (ak % 256)] 5)) := (Below.refl _ _).alloc (Nat.le_refl _) _
    have hbK : Below w0.heap.size w0 ((w0.alloc (.cells #[.int .u8 1, .int .u8 s, .int .u8 (ep / 256), .int .u8 (ep % 256), .int .u8 (sq / 256), .int .u8 (sq % 256), .int .u8 (ak / 256), .int .u8 (ak % 256)] 5)).alloc (.cells #[.int .u8 k] 5)) := hbL.alloc (by simp) _
    have slL := lit_sl (w := w0) (e := 5) [.int .u8 1, .int .u8 s, .int .u8 (ep / 256), .int .u8 (ep % 256), .int .u8 (sq / 256), .int .u8 (sq % 256), .int .u8 (ak / 256), .int .u8 (ak % 256)] 8 rfl (by omega) (by omega)
    have slK : Sl ((w0.alloc (.cells #[.int .u8 1, .int .u8 s, .int .u8 (ep / 256), .int .u8 (ep % 256), .int .u8 (sq / 256), .int .u8 (sq % 256), .int .u8 (ak / 256), .int .u8 (ak % 256)] 5)).alloc (.cells #[.int .u8 k] 5)) 1 (.slice (some ⟨w.heap.size + 1, 0, none⟩) 8 8) (some (w.heap.size + 1)) 8 (bvals hh) := by
      rw [← hz0, HHV.out]
      exact slL.below ((Below.refl _ _).alloc (Nat.le_refl _) _) Nat.zero_lt_one
    have srK : Src Tryd.prog 1 26 (.slice (some ⟨w.heap.size + 1 + 1, 0, none⟩) 1 1) 1 [.int .u8 k] ((w0.alloc (.cells #[.int .u8 1, .int .u8 s, .int .u8 (ep / 256), .int .u8 (ep % 256), .int .u8 (sq / 256), .int .u8 (sq % 256), .int .u8 (ak / 256), .int .u8 (ak % 256)] 5)).alloc (.cells #[.int .u8 k] 5)) := by
      have := (lit_sl (w := w0.alloc (.cells #[.int .u8 1, .int .u8 s, .int .u8 (ep / 256), .int .u8 (ep % 256), .int .u8 (sq / 256), .int .u8 (sq % 256), .int .u8 (ak / 256), .int .u8 (ak % 256)] 5)) (e := 5) [.int .u8 k] 1 rfl (by omega) (by omega)).src (P := Tryd.prog) (by intro u hu; simp at hu; subst hu; rfl) (tx := 26) (e' := 5) under22
      rwa [show (w0.alloc (.cells #[.int .u8 1, .int .u8 s, .int .u8 (ep / 256), .int .u8 (ep % 256), .int .u8 (sq / 256), .int .u8 (sq % 256), .int .u8 (ak / 256), .int .u8 (ak % 256)] 5)).heap.size = w.heap.size + 1 + 1 by simp [hz0]] at this
    have P9 := Lib.hid (show ∀ (v1 : Value) (w2 : World) (blk1 : Option Nat), Sl w2 1 v1 blk1 (8 + 1) (bvals hh ++ [.int .u8 k]) → (blk1 = some (w.heap.size + 1) ∨ ∃ b, blk1 = some b ∧ ((w0.alloc (.cells #[.int .u8 1, .int .u8 s, .int .u8 (ep / 256), .int .u8 (ep % 256), .int .u8 (sq / 256), .int .u8 (sq % 256), .int .u8 (ak / 256), .int .u8 (ak % 256)] 5)).alloc (.cells #[.int .u8 k] 5)).heap.size ≤ b) → Kept (fun k => some (w.heap.size + 1) = some k) ((w0.alloc (.cells #[.int .u8 1, .int .u8 s, .int .u8 (ep / 256), .int .u8 (ep % 256), .int .u8 (sq / 256), .int .u8 (sq % 256), .int .u8 (ak / 256), .int .u8 (ak % 256)] 5)).alloc (.cells #[.int .u8 k] 5)) w2 →
        (∃ A C, v1 = .slice A 9 C) ∧ Below w0.heap.size w0 w2 ∧ Sl w2 1 v1 blk1 9 (bvals h9) ∧ ∀ b, blk1 = some b → w0.heap.size ≤ b from fun v1 w2 blk1 sl1 fr1 kp1 => by
      rw [hv9] at sl1
      have hf0 : ∀ b, some (w.heap.size + 1) = some b → w0.heap.size ≤ b := fun b hb => by obtain rfl := Option.some.inj hb; omega
      exact ⟨sl1.rd.len, Kept.toBelow hbK kp1 hf0, sl1, fresh_next hf0 hbK.size fr1⟩)
    have APP := Lib.hid (show ∀ (W W' : World) (blk blk' : Option Nat) (v' : Value) (n : Nat) (l x : List UInt8), Below w0.heap.size w0 W → (∀ b, blk = some b → w0.heap.size ≤ b) → Sl W' 1 v' blk' (n + 4) (bvals l ++ bvals x) → (blk' = blk ∨ ∃ b, blk' = some b ∧ W.heap.size ≤ b) → Kept (fun k => blk = some k) W W' →
        (∃ A C, v' = .slice A (n + 4) C) ∧ Below w0.heap.size w0 W' ∧ Sl W' 1 v' blk' (n + 4) (bvals l ++ bvals x) ∧ ∀ b, blk' = some b → w0.heap.size ≤ b from fun W W' blk blk' v' n l x hW hf sl fr kp =>
      ⟨sl.rd.len, Kept.toBelow hW kp hf, sl, fresh_next hf hW.size fr⟩)
    have BD := Lib.hid (show (3 * (8 + 1) + 1024) * (1 + 1) ≤ 281474976710656 by omega)
    have BD2 := Lib.hid (show ∀ n : Nat, n ≤ 100 → (3 * (n + 4) + 1024) * (1 + 1) ≤ 281474976710656 from fun n hn => by omega)
    have FIN := Lib.hid (show ∀ W, Below w0.heap.size w0 W → Below w.heap.size w W from fun W h => by
      rw [hw0] at h
      exact ((Below.refl _ _).alloc (Nat.le_refl _) _).trans (h.mono (by simp)))
    have FINf := Lib.hid (show ∀ blk : Option Nat, (∀ b, blk = some b → w0.heap.size ≤ b) → ∀ b, blk = some b → w.heap.size ≤ b from fun blk h b hb => by have := h b hb; omega)
    have HW0 := Lib.hid hw0
    rw [hw0] at slK srK
    clear hby hv9 hh9 hbL hbK slL hz0 hw0
    go_enter Tryd.func12, Tryd.ntmps12
    go_wp2_with (first | (at_builtin; (refine wpList_append_sl rfl _ _ 26 26 5 rfl under22 info5 rfl Nat.zero_lt_one rfl rfl slK srK BD.out ?_); intro v1 w2 blk1 sl1 fr1 kp1; rw [← HW0.out] at fr1 kp1; obtain ⟨⟨A1, C1, rfl⟩, hK2, sl9, hf9⟩ := P9.out v1 w2 blk1 sl1 fr1 kp1; have HF9 := Lib.hid hf9; clear slK srK sl1 fr1 kp1 hf9) | fail)
    have hK3 := below_drew' hK2
    have sl9' := sl9.below (below_drew w2) Nat.zero_lt_one
    go_region_held3 (fun W => W.cell? ⟨w.heap.size, 6, none⟩ = some (.int .i64 a) ∧ W.cell? ⟨w.heap.size, 7, none⟩ = some (.int .i64 b) ∧ W.cell? ⟨w.heap.size, 8, none⟩ = some (.int .i64 c)) (first | exact CEL.out _ hKF | exact CEL.out _ hKE | exact CEL.out _ hKD | exact CEL.out _ hKC | exact CEL.out _ hKB | exact CEL.out _ hKA | exact CEL.out _ hK3) (first
      | (go_at_call 21; (with_reducible refine (NA.out _).mono ?_); rintro e WA ⟨An, Cn, rfl, srA, hbA⟩; have hKA := hK3.trans (hbA.mono hK3.size); have slA := sl9'.below hbA Nat.zero_lt_one)
      | (refine step_append_sl rfl _ _ 26 26 5 rfl under22 info5 rfl Nat.zero_lt_one rfl rfl slA srA (BD2.out 9 (by omega)) ?_; intro vB WB blkB slB' frB kpB; obtain ⟨⟨AB, CB, rfl⟩, hKB, slB, hfB⟩ := APP.out _ _ _ _ _ 9 _ _ hKA HF9.out slB' frB kpB; have HFB := Lib.hid hfB; clear slB' frB kpB hfB)
      | (go_at_call 21; (with_reducible refine (NB.out _).mono ?_); rintro e WC ⟨An, Cn, rfl, srC, hbC⟩; have hKC := hKB.trans (hbC.mono hKB.size); have slC := slB.below hbC Nat.zero_lt_one)
      | (refine step_append_sl rfl _ _ 26 26 5 rfl under22 info5 rfl Nat.zero_lt_one rfl rfl slC srC (BD2.out (9 + 4) (by omega)) ?_; intro vD WD blkD slD' frD kpD; rw [← bvals_append] at slD'; obtain ⟨⟨AD, CD, rfl⟩, hKD, slD, hfD⟩ := APP.out _ _ _ _ _ (9 + 4) _ _ hKC HFB.out slD' frD kpD; have HFD := Lib.hid hfD; clear slD' frD kpD hfD)
      | (go_at_call 21; (with_reducible refine (NC.out _).mono ?_); rintro e WE ⟨An, Cn, rfl, srE, hbE⟩; have hKE := hKD.trans (hbE.mono hKD.size); have slE := slD.below hbE Nat.zero_lt_one)
      | (refine step_append_sl rfl _ _ 26 26 5 rfl under22 info5 rfl Nat.zero_lt_one rfl rfl slE srE (BD2.out (9 + 4 + 4) (by omega)) ?_; intro vF WF blkF slF' frF kpF; rw [← bvals_append] at slF'; obtain ⟨⟨AF, CF, rfl⟩, hKF, slF, hfF⟩ := APP.out _ _ _ _ _ (9 + 4 + 4) _ _ hKE HFD.out slF' frF kpF; have HFF := Lib.hid hfF; clear slF' frF kpF hfF))
    all_goals
      go_wp2_with fail
      go_ret
      have slG := slF
      rw [bvals_append, bvals_append] at slG
      exact ⟨FIN.out _ hKF, _, blkF, rfl, slG, FINf.out _ HFF.out⟩
end Go.Proofs.YtclgnginmgleaaaDoor
