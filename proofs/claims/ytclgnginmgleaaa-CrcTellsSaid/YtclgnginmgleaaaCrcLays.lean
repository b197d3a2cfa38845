/-
  The walk of CrcLays.
-/
import Derived.Test.YtclgnginmgleaaaRow0
import Derived.Lib.QuietBelow
import Derived.BigQuiet
import Derived.RegionTactic
import Derived.StillTailTactics
namespace Go.Proofs.Ytclgnginmgleaaa
open Go Go.RowKit Go.Sort

theorem Rd.at_ {w : World} {A : Option Addr} {c : Nat} {l : List UInt8} (h : Rd w 1 (.slice A l.length c) l.length (bvals l)) (hl : 0 < l.length) :
    ∃ b off, A = some ⟨b, off, none⟩ ∧ l.length ≤ c ∧ c ≤ maxLen ∧ ∀ j (hj : j < l.length), w.cell? ⟨b, off + j, none⟩ = some (.int .u8 ((l[j]).toNat : Int)) := by
  obtain ⟨_, ⟨_, _, h0, _⟩ | ⟨b, off, cap, hv, _, h1, h2, hc⟩⟩ := h
  · omega
  · simp only [Value.slice.injEq, true_and] at hv
    obtain ⟨rfl, rfl⟩ := hv
    exact ⟨b, off, rfl, h1, h2, fun j hj => hc j _ (bvals_get l j hj)⟩

def xor3 (a b c : List UInt8) (i : Nat) : UInt8 := (a.getD i 0 ^^^ b.getD i 0) ^^^ c.getD i 0
def lay (a b c : List UInt8) (n k : Nat) : List UInt8 := (List.range n).map fun i => if i < k then xor3 a b c i else 0
theorem lay_zero (a b c : List UInt8) (n : Nat) : lay a b c n 0 = List.replicate n 0 := by
  unfold lay; simp [List.map_const']
theorem lay_length (a b c : List UInt8) (n k : Nat) : (lay a b c n k).length = n := by simp [lay]
theorem lay_set (a b c : List UInt8) (n k : Nat) : (bvals (lay a b c n k)).set k (.int .u8 ((xor3 a b c k).toNat : Int)) = bvals (lay a b c n (k + 1)) := by
  apply List.ext_getElem
  · simp [bvals, lay]
  · intro i h1 h2
    rw [List.getElem_set]
    simp only [bvals, lay, List.getElem_map, List.getElem_range]
    split
    · rename_i e; subst e; simp
    · rename_i e
      by_cases h : i < k
      · simp [h, show i < k + 1 by omega]
      · simp [h, show ¬ i < k + 1 by omega]

theorem crc_lay (a b c : List UInt8) (k : Nat) (h1 : k ≤ a.length) (h2 : k ≤ b.length) (h3 : k ≤ c.length) :
    Fr.crc (a.take k) ^^^ Fr.crc (b.take k) ^^^ Fr.crc (c.take k) = Fr.crc (lay a b c k k) := by
  unfold Fr.crc
  rw [← Crc.sum_lays _ _ _ (by simp [Fr.bv]; omega) (by simp [Fr.bv]; omega)]
  congr 1
  apply List.ext_getElem
  · simp [Fr.bv, lay]; omega
  · intro i hi hj
    have hik : i < k := by simpa [Fr.bv, lay] using hj
    simp [Fr.bv, lay, xor3, hik, List.getD_eq_getElem?_getD, List.getElem?_eq_getElem (show i < a.length by omega), List.getElem?_eq_getElem (show i < b.length by omega), List.getElem?_eq_getElem (show i < c.length by omega)]

theorem Rd.take {w : World} {A : Addr} {c k : Nat} {l : List UInt8} (h : Rd w 1 (.slice (some A) l.length c) l.length (bvals l)) (hk : k ≤ l.length) (hm : c ≤ maxLen) : Rd w 1 (.slice (some A) k c) k (bvals (l.take k)) := by
  refine ⟨by simp [bvals]; omega, ?_⟩
  rcases Nat.eq_zero_or_pos k with h0 | h0
  · subst h0; exact .inl ⟨_, _, rfl, rfl⟩
  · obtain ⟨_, ⟨_, _, h1, _⟩ | ⟨b, off, cap, hv, _, h1, h2, hc⟩⟩ := h
    · omega
    · simp only [Value.slice.injEq, Option.some.injEq, true_and] at hv
      obtain ⟨rfl, rfl⟩ := hv
      refine .inr ⟨b, off, c, rfl, h0, by omega, h2, fun j u hj => hc j u ?_⟩
      have e : bvals (l.take k) = (bvals l).take k := by simp [bvals, List.map_take]
      rw [e] at hj
      have hjl := (List.getElem?_eq_some_iff.1 hj).1
      rw [List.length_take] at hjl
      rwa [List.getElem?_take_of_lt (by omega)] at hj

set_option maxRecDepth 100000 in
set_option maxHeartbeats 800000 in
theorem crcLays_walk (a b c : List UInt8) (a1 a2 a3 : Option Addr) (c1 c2 c3 : Nat) (w : World) (h1 : Rd w 1 (.slice a1 a.length c1) a.length (bvals a)) (h2 : Rd w 1 (.slice a2 b.length c2) b.length (bvals b)) (h3 : Rd w 1 (.slice a3 c.length c3) c.length (bvals c))
    (hn : a.length ≤ 140737488351232) (hm : b.length ≤ 140737488351232) (hk : c.length ≤ 140737488351232) :
    Calls Try.prog 5 #[.slice a1 a.length c1, .slice a2 b.length c2, .slice a3 c.length c3] w fun e w' => e = .returned (.bool true) ∧ Below w.heap.size w w' := by
  obtain ⟨n, hna, hnb, hnc, hmn⟩ : ∃ n : Nat, n ≤ a.length ∧ n ≤ b.length ∧ n ≤ c.length ∧
      (if (c.length : Int) < (if b.length < a.length then (b.length : Int) else (a.length : Int)) then (c.length : Int) else if b.length < a.length then (b.length : Int) else (a.length : Int)) = (n : Int) := by
    refine ⟨min (min a.length b.length) c.length, by omega, by omega, by omega, ?_⟩
    split <;> split <;> omega
  by_cases hbig : 2000 < n
  · have hb' : (2000 : Int) < (n : Int) := by omega
    go_enter Try.func5, Try.ntmps5
    go_wp2_with fail
    refine (answers02 _).mono ?_
    rintro e w1 ⟨rfl, hb1⟩
    go_wp2
    go_ret
    exact ⟨rfl, hb1⟩
  · have hb' : ¬ (2000 : Int) < (n : Int) := by omega
    go_enter Try.func5, Try.ntmps5
    go_wp2_with (at_make; refine wpList_make_sl _ rfl _ _ _ 5 rfl under22 info5 .i64 .i64 n rfl rfl (by omega) (by unfold maxLen; omega) ?_; intro w1 v1 blk hv1 sl1 hbk bel1)
    have hv1' := hv1
    clear hv1'
    by_cases hn0 : n = 0
    · subst hn0
      have e0 : ∀ A cc (w : World), Rd w 1 (.slice A 0 cc) 0 (bvals []) := fun _ _ _ => ⟨rfl, .inl ⟨_, _, rfl, rfl⟩⟩
      have cQ : ∀ d os, Calls Try.prog 11 #[] (grow (redrawn w1 d) os) fun e w'' => e = .returned (.bool true) ∧ ∃ p : Regrown, w'' = grow (redrawn w1 p.d) p.os := fun d os => Calls.regrown_of (answers02 _)
      have cX : ∀ d os A cc, Calls Try.prog 12 #[.slice A 0 cc] (grow (redrawn w1 d) os) fun e w'' => e = .returned (.int .u32 0) ∧ ∃ p : Regrown, w'' = grow (redrawn w1 p.d) p.os := fun d os A cc => Calls.regrown_of (sum_any _ _ _ _ (e0 A cc _))
      subst hv1
      clear sl1 hbk e0
      rcases a1 with _ | a1 <;> rcases a2 with _ | a2 <;> rcases a3 with _ | a3
      all_goals
        go_wp2_with fail
        refine wp_loop_once ?_
        go_wp2
        refine wp_region_quiet_below (by kernel_rfl) (by kernel_rfl) ?_
        repeat (quiet_step (first | exact cQ _ _ | exact cX _ _ _ _))
        refine wpQuiet_nil ?_
        intro _ hw'
        obtain ⟨⟨dq, osq⟩, hw''⟩ := hw'
        subst hw''
        go_wp2
        go_ret
        exact ⟨rfl, bel1.trans ((below_regrown w1 dq osq).mono bel1.size)⟩
    · obtain ⟨b1, o1, rfl, l1, m1, e1⟩ := h1.at_ (by omega)
      obtain ⟨b2, o2, rfl, l2, m2, e2⟩ := h2.at_ (by omega)
      obtain ⟨b3, o3, rfl, l3, m3, e3⟩ := h3.at_ (by omega)
      unfold maxLen at m1 m2 m3
      rw [madeCells_bytes, ← lay_zero a b c n] at sl1
      have hblk : blk = some w.heap.size := by
        subst hv1
        obtain ⟨_, ⟨_, _, h0, _⟩ | ⟨b', off', cap', rfl, hv', _⟩⟩ := sl1
        · omega
        · simp only [Value.slice.injEq, Option.some.injEq, Addr.mk.injEq] at hv'
          rw [← hv'.1.1]
      subst hblk hv1
      have E1 := Lib.hid e1
      have E2 := Lib.hid e2
      have E3 := Lib.hid e3
      clear e1 e2 e3
      go_loopw [9] (fun i wr => ∃ k : Nat, k ≤ n ∧ i = .int .i64 k ∧ Below w.heap.size w wr ∧ Sl wr 1 (.slice (some ⟨w.heap.size, 0, none⟩) n n) (some w.heap.size) n (bvals (lay a b c n k))) (fun i _ => n - (intOf i).toNat)
      case atStart => exact ⟨0, by omega, rfl, bel1, sl1⟩
      case round =>
        obtain ⟨k, hk, rfl, bel, sl⟩ := hrel
        by_cases hlt : k < n
        · have ca : wr.cell? ⟨b1, o1 + k, none⟩ = some (.int .u8 ((a.getD k 0).toNat : Int)) := by
            have h0 := E1.out k (by omega)
            rw [bel.cell (p := ⟨b1, o1 + k, none⟩) (cell_lt h0), h0]; simp [List.getD_eq_getElem?_getD, List.getElem?_eq_getElem (show k < a.length by omega)]
          have cb : wr.cell? ⟨b2, o2 + k, none⟩ = some (.int .u8 ((b.getD k 0).toNat : Int)) := by
            have h0 := E2.out k (by omega)
            rw [bel.cell (p := ⟨b2, o2 + k, none⟩) (cell_lt h0), h0]; simp [List.getD_eq_getElem?_getD, List.getElem?_eq_getElem (show k < b.length by omega)]
          have cc : wr.cell? ⟨b3, o3 + k, none⟩ = some (.int .u8 ((c.getD k 0).toNat : Int)) := by
            have h0 := E3.out k (by omega)
            rw [bel.cell (p := ⟨b3, o3 + k, none⟩) (cell_lt h0), h0]; simp [List.getD_eq_getElem?_getD, List.getElem?_eq_getElem (show k < c.length by omega)]
          have hx : bits .xor .u8 (bits .xor .u8 ((a.getD k 0).toNat : Int) ((b.getD k 0).toNat : Int)) ((c.getD k 0).toNat : Int) = ((xor3 a b c k).toNat : Int) := by
            have h1 := bv_xor8 (a.getD k 0).toBitVec (b.getD k 0).toBitVec
            have h2 := bv_xor8 ((a.getD k 0).toBitVec ^^^ (b.getD k 0).toBitVec) (c.getD k 0).toBitVec
            show bits .xor .u8 (bits .xor .u8 ((a.getD k 0).toBitVec.toNat : Int) ((b.getD k 0).toBitVec.toNat : Int)) ((c.getD k 0).toBitVec.toNat : Int) = _
            rw [h1, h2]; rfl
          have slk := sl.store k (.int .u8 ((xor3 a b c k).toNat : Int)) (by rw [bvals_length, lay_length]; exact hlt)
          rw [lay_set, Nat.zero_add] at slk
          have hco : (wr.cell? ⟨w.heap.size, k, none⟩).isSome = true ∧ wr.frozen? ⟨w.heap.size, k, none⟩ = false := by
            obtain ⟨_, ⟨_, h0, _⟩ | ⟨b', off', cap', hb', hv', _, _, _, _, ht⟩⟩ := sl
            · cases h0
            · simp only [Value.slice.injEq, Option.some.injEq, Addr.mk.injEq, and_true, true_and] at hv'
              obtain ⟨⟨rfl, rfl⟩, rfl⟩ := hv'
              have := ht k (by omega)
              rwa [Nat.zero_add] at this
          obtain ⟨hco1, hco2⟩ := hco
          obtain ⟨vo, hvo⟩ := Option.isSome_iff_exists.1 hco1
          generalize a.getD k 0 = xa at ca hx
          generalize b.getD k 0 = xb at cb hx
          generalize c.getD k 0 = xc at cc hx
          generalize xor3 a b c k = xx at hx slk
          have SLK := Lib.hid slk
          clear slk sl hco1
          have ia : (k : Int) < (a.length : Int) := by omega
          have ib : (k : Int) < (b.length : Int) := by omega
          have ic : (k : Int) < (c.length : Int) := by omega
          have ik : (k : Int) < (n : Int) := by omega
          have i0 : (0 : Int) ≤ (k : Int) := by omega
          go_wp2
          go_still_tail 17, (by kernel_rfl)
          go_wp2
          refine ⟨⟨k + 1, by omega, by simp, (bel.setCell (Nat.le_refl _) _).drew, SLK.out⟩, by simp [intOf]; omega⟩
        · obtain rfl : k = n := by omega
          have hge : ¬ ((k : Int) < (k : Int)) := by omega
          have t1 : 0 + 1 ≤ 1 := by omega
          have i1 : (k : Int) ≤ (c1 : Int) := by omega
          have i2 : (k : Int) ≤ (c2 : Int) := by omega
          have i3 : (k : Int) ≤ (c3 : Int) := by omega
          have i0 : (0 : Int) ≤ (k : Int) := by omega
          have rx := (sl.rd : Rd wr 1 _ k _)
          have ra : Rd wr 1 (.slice (some ⟨b1, o1, none⟩) k c1) k (bvals (a.take k)) := (Rd.take h1 hna (by unfold maxLen; omega)).below bel
          have rb : Rd wr 1 (.slice (some ⟨b2, o2, none⟩) k c2) k (bvals (b.take k)) := (Rd.take h2 hnb (by unfold maxLen; omega)).below bel
          have rc : Rd wr 1 (.slice (some ⟨b3, o3, none⟩) k c3) k (bvals (c.take k)) := (Rd.take h3 hnc (by unfold maxLen; omega)).below bel
          have cQ : ∀ d os, Calls Try.prog 11 #[] (grow (redrawn wr d) os) fun e w'' => e = .returned (.bool true) ∧ ∃ p : Regrown, w'' = grow (redrawn wr p.d) p.os := fun d os => Calls.regrown_of (answers02 _)
          have cX : ∀ d os, Calls Try.prog 12 #[.slice (some ⟨w.heap.size, 0, none⟩) k k] (grow (redrawn wr d) os) fun e w'' => e = .returned (.int .u32 ((Fr.crc (lay a b c k k)).toNat : Int)) ∧ ∃ p : Regrown, w'' = grow (redrawn wr p.d) p.os := fun d os => Calls.regrown_of (sum_any _ _ _ _ (rx.below (below_regrown wr d os)))
          have cA : ∀ d os, Calls Try.prog 12 #[.slice (some ⟨b1, o1, none⟩) k c1] (grow (redrawn wr d) os) fun e w'' => e = .returned (.int .u32 ((Fr.crc (a.take k)).toNat : Int)) ∧ ∃ p : Regrown, w'' = grow (redrawn wr p.d) p.os := fun d os => Calls.regrown_of (sum_any _ _ _ _ (ra.below (below_regrown wr d os)))
          have cB : ∀ d os, Calls Try.prog 12 #[.slice (some ⟨b2, o2, none⟩) k c2] (grow (redrawn wr d) os) fun e w'' => e = .returned (.int .u32 ((Fr.crc (b.take k)).toNat : Int)) ∧ ∃ p : Regrown, w'' = grow (redrawn wr p.d) p.os := fun d os => Calls.regrown_of (sum_any _ _ _ _ (rb.below (below_regrown wr d os)))
          have cC : ∀ d os, Calls Try.prog 12 #[.slice (some ⟨b3, o3, none⟩) k c3] (grow (redrawn wr d) os) fun e w'' => e = .returned (.int .u32 ((Fr.crc (c.take k)).toNat : Int)) ∧ ∃ p : Regrown, w'' = grow (redrawn wr p.d) p.os := fun d os => Calls.regrown_of (sum_any _ _ _ _ (rc.below (below_regrown wr d os)))
          have hxor : bits .xor .u32 (bits .xor .u32 ((Fr.crc (a.take k)).toNat : Int) ((Fr.crc (b.take k)).toNat : Int)) ((Fr.crc (c.take k)).toNat : Int) = ((Fr.crc (lay a b c k k)).toNat : Int) := by
            rw [bv_xor32, bv_xor32, crc_lay a b c k hna hnb hnc]
          generalize Fr.crc (lay a b c k k) = q0 at cX hxor
          generalize Fr.crc (a.take k) = q1 at cA hxor
          generalize Fr.crc (b.take k) = q2 at cB hxor
          generalize Fr.crc (c.take k) = q3 at cC hxor
          clear ra rb rc rx sl
          go_wp2
          refine wp_region_quiet_below (by kernel_rfl) (by kernel_rfl) ?_
          repeat (quiet_step (first | exact cQ _ _ | exact cX _ _ | exact cA _ _ | exact cB _ _ | exact cC _ _))
          refine wpQuiet_nil ?_
          intro _ hw'
          obtain ⟨⟨dq, osq⟩, hw''⟩ := hw'
          subst hw''
          go_wp2
          go_ret
          exact ⟨rfl, bel.trans ((below_regrown wr dq osq).mono bel.size)⟩
end Go.Proofs.Ytclgnginmgleaaa
