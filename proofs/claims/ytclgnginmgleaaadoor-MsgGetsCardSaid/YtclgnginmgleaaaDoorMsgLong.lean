/-
  Walks of package msg: the packet of 21 bytes.
-/
import Derived.Test.YtclgnginmgleaaaDoorMsgGet
namespace Go.Proofs.YtclgnginmgleaaaDoor
open Go Go.RowKit Go.Sort

/-- Behind a call that keeps to new memory: both boxes stand. -/
theorem after_good {w W : World} {cs ds : Array Value} {T T' : TypeId} (h : Below (((w.alloc (.cells cs T)).alloc (.cells ds T')).drew.drew).heap.size ((w.alloc (.cells cs T)).alloc (.cells ds T')).drew.drew W) :
    W.heap[w.heap.size]? = some (.cells cs T (0, 0)) ∧ W.heap[w.heap.size + 1]? = some (.cells ds T' (0, 0)) ∧ Below w.heap.size w W := by
  have e : (((w.alloc (.cells cs T)).alloc (.cells ds T')).drew.drew).heap.size = w.heap.size + 2 := by simp
  have h0 : Below w.heap.size w ((w.alloc (.cells cs T)).alloc (.cells ds T')).drew.drew := below_drew' (below_drew' (((Below.refl _ _).alloc (Nat.le_refl _) _).alloc (by simp) _))
  refine ⟨?_, ?_, h0.trans (h.mono h0.size)⟩
  · rw [h.block _ (by omega)]
    show ((w.alloc (.cells cs T)).alloc (.cells ds T')).heap[w.heap.size]? = _
    rw [Below.heap_alloc _ _ _ (by simp)]
    exact heap_alloc_new w _
  · rw [h.block _ (by omega)]
    exact heap_alloc2_new w (.cells cs T) (.cells ds T')

theorem packetV_one (p : M.Packet) : ∀ u ∈ (packetV p).toList, u.oneCell' = true := by
  intro u hu
  simp only [packetV, List.mem_cons, List.not_mem_nil, or_false] at hu
  rcases hu with rfl | rfl | rfl | rfl | rfl | rfl | rfl | rfl | rfl <;> rfl
/-- A struct's variable and a slot as results. -/
theorem results_cell_tmp {P : Program} {fn : Func} {p q : Tmp} {ty : TypeId} (h : fn.results = #[.cell p ty, .tmp q]) (tmps : Array Value) (w : World) (g : Nat) (t : TypeId) (cs : Array Value) (fr : Nat × Nat) (d : TypeDesc)
    (hp : tmps.getD p undef = .pointer (some ⟨g, 0, none⟩)) (hg : w.heap[g]? = some (.cells cs t fr))
    (hu : P.underlying ty = some d) (hd : (match d with | .struct _ | .array _ _ => true | _ => false) = true) (hi : (P.info? ty).map (·.size) = some cs.size) :
    (results fn tmps).run P w = .ok (.tuple #[.agg cs, tmps.getD q undef]) w := by
  have hp' : tmps[p]?.getD undef = .pointer (some ⟨g, 0, none⟩) := by simpa using hp
  simp [results, h, hp', asAddr, run_loadVar_row w g t ty cs fr d hg hu hd hi]

theorem size54 (w : World) : (sizeOf 25).run Tryd.prog w = .ok 9 w := by kernel_rfl
theorem info54 : (Tryd.prog.info? 25).map (·.size) = some 9 := by kernel_rfl

set_option maxRecDepth 100000 in
set_option maxHeartbeats 4000000 in
theorem msgGet_long0 (l : List UInt8) (a : Option Addr) (c : Nat) (w : World) (hn : l.length = 21) (h : Rd w 1 (.slice a 21 c) 21 (bvals l)) (h1 : l.getD 0 0 = 1) (R : Array Value) (E : Int)
    (r1 : M.kindOk (M.longOf l).msg.kind = false → R = packetV M.Packet.zero ∧ E = 4) (r2 : M.kindOk (M.longOf l).msg.kind = true → (M.longOf l).good = false → R = packetV M.Packet.zero ∧ E = 2) (r3 : M.kindOk (M.longOf l).msg.kind = true → (M.longOf l).good = true → R = packetV (M.longOf l) ∧ E = 0) :
    Calls Tryd.prog 11 #[.slice a 21 c] w fun e w' => e = .returned (.tuple #[.agg R, .int .i64 E]) ∧ Below w.heap.size w w' := by
  have hR : Rd w 1 (.slice a l.length c) l.length (bvals l) := by rw [hn]; exact h
  obtain ⟨b, off, rfl, hc0⟩ := hR.at_ 0 (by omega)
  have hbl := cell_lt hc0
  have hcc : 21 ≤ c ∧ c ≤ maxLen := by
    obtain ⟨_, ⟨_, _, h0, _⟩ | ⟨_, _, cap, hv, _, h2, h3, _⟩⟩ := h
    · omega
    · simp only [Value.slice.injEq] at hv
      omega
  rw [h1, Nat.add_zero] at hc0
  have hc0' : w.cell? ⟨b, off, none⟩ = some (.int .u8 1) := hc0
  have CEL := Lib.hid (show ∀ W, Below w.heap.size w W → W.cell? ⟨b, off + 1, none⟩ = some (.int .u8 ((l.getD 1 0).toNat : Int)) from fun W hW => by
    obtain ⟨b', off', e, hc⟩ := hR.at_ 1 (by omega)
    simp only [Option.some.injEq, Addr.mk.injEq, and_true] at e
    obtain ⟨rfl, rfl⟩ := e
    rw [hW.cell (p := ⟨b, off + 1, none⟩) hbl]; exact hc)
  have CEL8 := Lib.hid (show ∀ W, Below w.heap.size w W → W.cell? ⟨b, off + 8, none⟩ = some (.int .u8 ((l.getD 8 0).toNat : Int)) from fun W hW => by
    obtain ⟨b', off', e, hc⟩ := hR.at_ 8 (by omega)
    simp only [Option.some.injEq, Addr.mk.injEq, and_true] at e
    obtain ⟨rfl, rfl⟩ := e
    rw [hW.cell (p := ⟨b, off + 8, none⟩) hbl]; exact hc)
  have NUM := Lib.hid (show ∀ (i m : Nat) (W : World), i + m ≤ 21 → m ≤ 4 → Below w.heap.size w W → Calls Tryd.prog 20 #[.slice (some ⟨b, off + i, none⟩) m (c - i)] W fun e w' => e = .returned (.int .i64 (M.numberOf ((l.drop i).take m))) ∧ w' = W from fun i m W hi _ hW => by
    have hr := Rd.win (hR.below hW) i m (c - i) (by omega) (by omega) (by omega)
    have hl2 : ((l.drop i).take m).length = m := by simp; omega
    have := number_any ((l.drop i).take m) (some ⟨b, off + i, none⟩) (c - i) W (by rw [hl2]; exact hr) (by omega)
    rw [hl2] at this; exact this)
  have hlo : M.longOf l = ⟨((l.getD 1 0).toNat : Int), M.numberOf ((l.drop 2).take 2), M.numberOf ((l.drop 4).take 2), M.numberOf ((l.drop 6).take 2), true, ⟨((l.getD 8 0).toNat : Int), M.numberOf ((l.drop 9).take 4), M.numberOf ((l.drop 13).take 4), M.numberOf ((l.drop 17).take 4)⟩⟩ := rfl
  have HGD := Lib.hid (good_any (M.longOf l))
  have hzv : packetV M.Packet.zero = #[.int .i64 0, .int .i64 0, .int .i64 0, .int .i64 0, .bool false, .int .i64 0, .int .i64 0, .int .i64 0, .int .i64 0] := rfl
  have hlv : packetV (M.longOf l) = #[.int .i64 ((l.getD 1 0).toNat : Int), .int .i64 (M.numberOf ((l.drop 2).take 2)), .int .i64 (M.numberOf ((l.drop 4).take 2)), .int .i64 (M.numberOf ((l.drop 6).take 2)), .bool true, .int .i64 ((l.getD 8 0).toNat : Int), .int .i64 (M.numberOf ((l.drop 9).take 4)), .int .i64 (M.numberOf ((l.drop 13).take 4)), .int .i64 (M.numberOf ((l.drop 17).take 4))] := rfl
  rw [hlv] at HGD r3
  rw [hzv] at r1 r2
  generalize hg : (M.longOf l).good = g at *
  rw [show (M.longOf l).msg.kind = ((l.getD 8 0).toNat : Int) from rfl] at r1 r2 r3
  clear hg hlv hzv
  have hx1 := (l.getD 1 0).toNat_lt
  have hx8 := (l.getD 8 0).toNat_lt
  clear hlo hR h hc0 h1 hn
  generalize (l.getD 1 0).toNat = x1 at *
  generalize (l.getD 8 0).toNat = x8 at *
  have R1 := Lib.hid r1
  have R2 := Lib.hid r2
  have R3 := Lib.hid r3
  clear r1 r2 r3
  have x1w : IntKind.i64.wrap (x1 : Int) = (x1 : Int) ∧ True := ⟨IntWalk.i64_in _ (by omega), trivial⟩
  have x8w : IntKind.i64.wrap (x8 : Int) = (x8 : Int) ∧ True := ⟨IntWalk.i64_in _ (by omega), trivial⟩
  have j1 : (21 : Int) ≤ (c : Int) := by omega
  have j2 : (4 : Int) ≤ (c : Int) := by omega
  have j3 : (6 : Int) ≤ (c : Int) := by omega
  have j4 : (8 : Int) ≤ (c : Int) := by omega
  have j5 : (13 : Int) ≤ (c : Int) := by omega
  have j6 : (17 : Int) ≤ (c : Int) := by omega
  have k1 : ¬ c = 2 := by omega
  have k2 : ¬ c = 4 := by omega
  have k3 : ¬ c = 6 := by omega
  have k4 : ¬ c = 9 := by omega
  have k5 : ¬ c = 13 := by omega
  have k6 : ¬ c = 17 := by omega
  have HCC := Lib.hid hcc
  clear hcc
  have W0 := Lib.hid (show Below w.heap.size w (w.alloc (.cells #[.int .i64 0, .int .i64 0, .int .i64 0, .int .i64 0, .bool false, .int .i64 0, .int .i64 0, .int .i64 0, .int .i64 0] 25)) from (Below.refl _ _).alloc (Nat.le_refl _) _)
  go_enter Tryd.func11, Tryd.ntmps11
  go_wp2_with fail
  have HA := Lib.hid (below_drew' W0.out)
  have HB := Lib.hid (below_drew' (W0.out.alloc W0.out.size (.cells #[.int .i64 0, .int .i64 0, .int .i64 0, .int .i64 0, .bool false, .int .i64 0, .int .i64 0, .int .i64 0, .int .i64 0] 25)))
  go_region_held3 (fun W => W.cell? ⟨b, off + 1, none⟩ = some (.int .u8 (x1 : Int))) (first | exact CEL.out _ HA.out | exact CEL.out _ (below_drew' (W0.out.alloc W0.out.size _))) (first | (go_at_call 20; refine (NUM.out _ 2 _ ?_ ?_ ?_).mono ?_; omega; omega; (first | exact HA.out | exact HB.out); rintro e W ⟨rfl, rfl⟩))
  all_goals
    go_wp2_with fail
    go_region_held3 (fun W => W.cell? ⟨b, off + 8, none⟩ = some (.int .u8 (x8 : Int))) (first | exact CEL8.out _ (below_drew' (below_drew' (W0.out.alloc W0.out.size _)))) (first | (go_at_call 20; refine (NUM.out _ 4 _ ?_ ?_ ?_).mono ?_; omega; omega; exact below_drew' (below_drew' (W0.out.alloc W0.out.size _)); rintro e W ⟨rfl, rfl⟩))
    by_cases hk : M.kindOk (x8 : Int) = true
    · have HK := Lib.hid hk
      clear hk
      cases g
      · go_wp2_with (first | (go_at_call 19; (with_reducible refine (kind_any _ _).mono ?_); rintro e W ⟨rfl, rfl⟩; rw [HK.out]) | (go_at_call 10; (refine (HGD.out _).mono ?_); rintro e W ⟨rfl, hW⟩; have Q := Lib.hid (after_good hW); clear hW) | (refine wpList_load_row rfl _ _ rfl _ rfl _ _ _ _ Q.out.2.1 Tryd.underlying25 rfl info54 ?_) | (refine wpList_store_row rfl rfl rfl rfl Q.out.1 size54 rfl (packetV_one ⟨_, _, _, _, _, ⟨_, _, _, _⟩⟩) ?_; intro w' s1 s2 s3; have S1 := Lib.hid s1; have S2 := Lib.hid s2; clear s1 s2 s3) | fail)
        exact bodyPost_ret (results_cell_tmp rfl _ _ w.heap.size _ _ _ _ rfl S1.out Tryd.underlying25 rfl info54) rfl ⟨by rw [(R2.out HK.out trivial).1, (R2.out HK.out trivial).2]; rfl, Q.out.2.2.trans (S2.out.belowB Q.out.2.2.size fun i hi h => by omega)⟩
      · go_wp2_with (first | (go_at_call 19; (with_reducible refine (kind_any _ _).mono ?_); rintro e W ⟨rfl, rfl⟩; rw [HK.out]) | (go_at_call 10; (refine (HGD.out _).mono ?_); rintro e W ⟨rfl, hW⟩; have Q := Lib.hid (after_good hW); clear hW) | (refine wpList_load_row rfl _ _ rfl _ rfl _ _ _ _ Q.out.2.1 Tryd.underlying25 rfl info54 ?_) | (refine wpList_store_row rfl rfl rfl rfl Q.out.1 size54 rfl (packetV_one ⟨_, _, _, _, _, ⟨_, _, _, _⟩⟩) ?_; intro w' s1 s2 s3; have S1 := Lib.hid s1; have S2 := Lib.hid s2; clear s1 s2 s3) | fail)
        exact bodyPost_ret (results_cell_tmp rfl _ _ w.heap.size _ _ _ _ rfl S1.out Tryd.underlying25 rfl info54) rfl ⟨by rw [(R3.out HK.out trivial).1, (R3.out HK.out trivial).2]; rfl, Q.out.2.2.trans (S2.out.belowB Q.out.2.2.size fun i hi h => by omega)⟩
    · rw [Bool.not_eq_true] at hk
      have HK := Lib.hid hk
      clear hk
      go_wp2_with (first | (go_at_call 19; (with_reducible refine (kind_any _ _).mono ?_); rintro e W ⟨rfl, rfl⟩; rw [HK.out]) | fail)
      exact bodyPost_ret (v := .tuple #[.agg #[.int .i64 0, .int .i64 0, .int .i64 0, .int .i64 0, .bool false, .int .i64 0, .int .i64 0, .int .i64 0, .int .i64 0], .int .i64 4]) (by simp [results, Tryd.results11, go_sem]) rfl ⟨by rw [(R1.out HK.out).1, (R1.out HK.out).2], below_drew' (below_drew' (((Below.refl _ _).alloc (Nat.le_refl _) _).alloc (by simp) _))⟩

theorem msgGet_long (l : List UInt8) (a : Option Addr) (c : Nat) (w : World) (hn : l.length = 21) (h : Rd w 1 (.slice a 21 c) 21 (bvals l)) (h1 : l.getD 0 0 = 1) :
    Calls Tryd.prog 11 #[.slice a 21 c] w fun e w' => e = .returned (.tuple #[.agg (packetV (M.msgGet l).1), .int .i64 (M.msgGet l).2]) ∧ Below w.heap.size w w' := by
  have hm : M.msgGet l = if M.kindOk (M.longOf l).msg.kind = false then (M.Packet.zero, 4) else if (M.longOf l).good = false then (M.Packet.zero, 2) else (M.longOf l, 0) := by
    unfold M.msgGet
    rw [if_neg (by rw [hn, h1]; simp), if_neg (by rw [hn]; omega)]
  refine msgGet_long0 l a c w hn h h1 _ _ (fun hk => ?_) (fun hk hg => ?_) (fun hk hg => ?_)
  · rw [hm, if_pos hk]; exact ⟨rfl, rfl⟩
  · rw [hm, if_neg (by rw [hk]; simp), if_pos hg]; exact ⟨rfl, rfl⟩
  · rw [hm, if_neg (by rw [hk]; simp), if_neg (by rw [hg]; simp)]; exact ⟨rfl, rfl⟩

/-- The packet of bytes. -/
theorem msgGet_any (l : List UInt8) (a : Option Addr) (c : Nat) (w : World) (h : Rd w 1 (.slice a l.length c) l.length (bvals l)) :
    Calls Tryd.prog 11 #[.slice a l.length c] w fun e w' => e = .returned (.tuple #[.agg (packetV (M.msgGet l).1), .int .i64 (M.msgGet l).2]) ∧ Below w.heap.size w w' := by
  by_cases hno : (l.length ≠ 8 ∧ l.length ≠ 21) ∨ l.getD 0 0 ≠ 1
  · have hm : M.msgGet l = (M.Packet.zero, 2) := by unfold M.msgGet; rw [if_pos hno]
    rw [hm]
    exact msgGet_none l l.length a c w rfl h hno
  · have h1 : l.getD 0 0 = 1 := by
      by_cases h1 : l.getD 0 0 = 1
      · exact h1
      · exact absurd (.inr h1) hno
    by_cases h8 : l.length = 8
    · have hm : M.msgGet l = (M.shortOf l, 0) := by unfold M.msgGet; rw [if_neg hno, if_pos h8]
      rw [hm, h8]
      rw [h8] at h
      exact msgGet_short l a c w h8 h h1
    · have h21 : l.length = 21 := by
        by_cases h21 : l.length = 21
        · exact h21
        · exact absurd (.inl ⟨h8, h21⟩) hno
      rw [h21]
      rw [h21] at h
      exact msgGet_long l a c w h21 h h1
end Go.Proofs.YtclgnginmgleaaaDoor
