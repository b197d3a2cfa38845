/-
  The walks of the checksum's laws.
-/
import Derived.Test.YtclgnginmgleaaaCrcWalks
import Derived.Lib.SlBytesConst
import Derived.Deep.DeepMust
namespace Go.Proofs.Ytclgnginmgleaaa
open Go Go.RowKit

theorem crc_digits : ((Fr.crc [49, 50, 51, 52, 53, 54, 55, 56, 57]).toNat : Int) = 3421780262 := by decide +kernel
theorem crc_parts : ((Crc.more (Fr.crc [49, 50, 51, 52]) (Fr.bv [53, 54, 55, 56, 57])).toNat : Int) = 3421780262 := by decide +kernel
theorem under22 : Try.prog.underlying 22 = some (.slice 5) := by kernel_rfl
theorem under5 : Try.prog.underlying 5 = some (.int .u8) := by kernel_rfl
theorem conv_bytes (w : World) (C : Array Value) (n c : Nat) : (convert 22 22 (.slice (some ⟨w.heap.size, 0, none⟩) n c)).run Try.prog (w.alloc (.cells C 5)) = .ok (.slice (some ⟨w.heap.size, 0, none⟩) n c) (w.alloc (.cells C 5 (C.size, C.size + 1))) := Lib.run_convert_bytes_const (P := Try.prog) w 22 5 C n c under22 under5
/-- A text's row is read. -/
theorem lit_rd {w : World} {e : TypeId} {fr : Nat × Nat} (l : List UInt8) (n : Nat) (hl : l.length = n) (hn : 0 < n) (hm : n ≤ 100) :
    Rd (w.alloc (.cells (bvals l).toArray e fr)) 1 (.slice (some ⟨w.heap.size, 0, none⟩) n n) n (bvals l) := by
  have hb : (w.alloc (.cells (bvals l).toArray e fr)).heap[w.heap.size]? = some (.cells (bvals l).toArray e fr) := heap_alloc_new _ _
  refine ⟨by rw [bvals_length, hl, Nat.mul_one], .inr ⟨_, 0, n, rfl, hn, Nat.le_refl _, by unfold maxLen; omega, fun j u hj => ?_⟩⟩
  rw [Nat.zero_add, cell_of_row _ _ _ _ _ _ hb]; simpa using hj

set_option maxRecDepth 100000 in
set_option maxHeartbeats 400000 in
theorem answers02 (w : World) : Calls Try.prog 11 #[] w fun e w' => e = .returned (.bool true) ∧ Below w.heap.size w w' := by
  have kc := conv_bytes
  go_enter Try.func11, Try.ntmps11
  go_wp2_with fail
  refine (sum_any _ 9 _ _ (lit_rd [49, 50, 51, 52, 53, 54, 55, 56, 57] 9 rfl (by omega) (by omega))).mono ?_
  rintro e w1 ⟨rfl, hb1⟩
  rw [crc_digits]
  go_wp2_with fail
  refine (sum_any _ 4 _ _ (lit_rd [49, 50, 51, 52] 4 rfl (by omega) (by omega))).mono ?_
  rintro e w2 ⟨rfl, hb2⟩
  go_wp2_with fail
  refine (more_any _ _ 5 _ _ (lit_rd [53, 54, 55, 56, 57] 5 rfl (by omega) (by omega))).mono ?_
  rintro e w3 ⟨rfl, hb3⟩
  rw [crc_parts]
  go_wp2_with fail
  go_ret
  refine ⟨rfl, ?_⟩
  have h1 : Below w.heap.size w w1 := ((Below.refl _ w).alloc (Nat.le_refl _) _).trans (hb1.mono (by simp))
  have h2 : Below w.heap.size w w2 := (h1.alloc h1.size _).trans (hb2.mono (by have := h1.size; simp; omega))
  exact (h2.alloc h2.size _).trans (hb3.mono (by have := h2.size; simp; omega))

theorem info5 : (Try.prog.info? 5).map (fun i => (i.zero, i.size, i.bytes)) = some (some (.int .u8 0), 1, 1) := by kernel_rfl

theorem Rd.srcB {w : World} {n : Nat} {v : Value} {l : List UInt8} (h : Rd w 1 v n (bvals l)) : Src Try.prog 1 22 v n (bvals l) w := by
  obtain ⟨hl, ⟨a, c, rfl, rfl⟩ | ⟨b, off, cap, rfl, hn, hle, hm, hc⟩⟩ := h
  · have : bvals l = [] := by simpa using hl
    rw [this]
    cases a with
    | none => exact Src.ofNil w under22 c
    | some a => exact Src.ofSlice w under22 a 0 c [] (by simp) (fun j u hj => by simp at hj) (fun u hu => by simp at hu)
  · refine Src.ofSlice w under22 ⟨b, off, none⟩ n cap _ hl (fun j u hj => ?_) (bvals_one l)
    rw [Addr.add_lit]; exact hc j u hj
theorem Rd.kept {w w' : World} {sz n : Nat} {v : Value} {xs : List Value} {S : Nat → Prop} (h : Rd w sz v n xs) (hb : Kept S w w') (hs : ∀ k, k < w.heap.size → ¬ S k) : Rd w' sz v n xs := h.below (hb.below hs)
theorem Rd.n {w : World} {n : Nat} {v : Value} {l : List UInt8} (h : Rd w 1 v n (bvals l)) : n = l.length := by have := h.1; rw [bvals_length, Nat.mul_one] at this; exact this.symm

theorem Sl.empty (w : World) (sz : Nat) (a : Option Addr) : Sl w sz (.slice a 0 0) none 0 [] := ⟨by simp, .inl ⟨a, rfl, rfl, rfl⟩⟩
theorem below_alloc' {w W : World} (h : Below w.heap.size w W) (o : Obj) : Below w.heap.size w (W.alloc o) := h.alloc h.size o
theorem Kept.toBelow {w W W' : World} {blk : Option Nat} (h : Below w.heap.size w W) (k : Kept (fun k => blk = some k) W W') (hb : ∀ b, blk = some b → w.heap.size ≤ b) : Below w.heap.size w W' :=
  h.trans (k.belowB h.size fun i hi e => by have := hb i e; omega)
theorem fresh_next {w : World} {n : Nat} {blk blk' : Option Nat} (h : ∀ b, blk = some b → n ≤ b) (hn : n ≤ w.heap.size) (hb : blk' = blk ∨ ∃ b, blk' = some b ∧ w.heap.size ≤ b) : ∀ b, blk' = some b → n ≤ b := by
  intro b hbb
  rcases hb with rfl | ⟨c, rfl, hc⟩
  · exact h b hbb
  · obtain rfl := Option.some.inj hbb; omega

set_option maxRecDepth 100000 in
set_option maxHeartbeats 200000 in
theorem crcSums_walk (a b : List UInt8) (a1 a2 : Option Addr) (c1 c2 : Nat) (w : World) (h1 : Rd w 1 (.slice a1 a.length c1) a.length (bvals a)) (h2 : Rd w 1 (.slice a2 b.length c2) b.length (bvals b)) (hn : a.length ≤ 140737488351232) (hm : b.length ≤ 140737488351232) :
    Calls Try.prog 3 #[.slice a1 a.length c1, .slice a2 b.length c2] w fun e w' => e = .returned (.bool true) ∧ Below w.heap.size w w' := by
  by_cases hbig : 20000 < a.length + b.length
  · have hb' : (20000 : Int) < (a.length : Int) + (b.length : Int) := by omega
    go_enter Try.func3, Try.ntmps3
    go_wp2_with fail
    refine (answers02 _).mono ?_
    rintro e w1 ⟨rfl, hb1⟩
    go_wp2
    go_ret
    exact ⟨rfl, hb1⟩
  · have hb' : ¬ (20000 : Int) < (a.length : Int) + (b.length : Int) := by omega
    have hbel0 : Below w.heap.size w (w.alloc (.cells #[] 5)) := (Below.refl _ _).alloc (Nat.le_refl _) _
    have sl0 := Sl.empty (w.alloc (.cells #[] 5)) 1 (some ⟨w.heap.size, 0, none⟩)
    have sr1 := (h1.below hbel0).srcB
    have bd1 : (3 * (0 + a.length) + 1024) * (1 + 1) ≤ 281474976710656 := by omega
    have bd2 : (3 * (0 + a.length + b.length) + 1024) * (1 + 1) ≤ 281474976710656 := by omega
    go_enter Try.func3, Try.ntmps3
    go_wp2_with (first | (at_builtin; refine wpList_append_sl rfl _ _ _ _ 5 rfl under22 info5 rfl Nat.zero_lt_one rfl rfl sl0 sr1 bd1 ?_; intro v1 w1 blk1 sl1 fr1 kp1; have bel1 := Kept.toBelow hbel0 kp1 (fun b hb => by cases hb); have sr2 := (h2.below bel1).srcB; clear sl0 sr1) | (at_builtin; go_must (refine wpList_append_sl rfl _ _ _ _ 5 rfl under22 info5 rfl Nat.zero_lt_one rfl rfl sl1 sr2 bd2 ?_; intro v2 w2 blk2 sl2 fr2 kp2; have bel2 := Kept.toBelow bel1 kp2 (fresh_next (fun b hb => by cases hb) hbel0.size fr1))) | fail)
    have sl3 : Rd w2 1 v2 (a ++ b).length (bvals (a ++ b)) := by
      have := sl2.rd
      rw [bvals_append, List.length_append]
      simpa using this
    clear sl2 fr2 kp2 kp1 sl1 fr1 sr2 bd1 bd2
    refine (answers02 _).mono ?_
    rintro e w3 ⟨rfl, b3⟩
    go_wp2_with fail
    have bel3 := bel2.trans (b3.mono bel2.size)
    refine (sum_any _ _ a _ (h1.below bel3)).mono ?_
    rintro e w4 ⟨rfl, b4⟩
    go_wp2_with fail
    have bel4 := bel3.trans (b4.mono bel3.size)
    refine (refCRC_any _ _ a _ (h1.below bel4)).mono ?_
    rintro e w5 ⟨rfl, b5⟩
    go_wp2_with fail
    have bel5 := bel4.trans (b5.mono bel4.size)
    have all5 := ((sl3.below b3).below b4).below b5
    refine (sum_any _ _ (a ++ b) _ all5).mono ?_
    rintro e w6 ⟨rfl, b6⟩
    go_wp2_with fail
    have bel6 := bel5.trans (b6.mono bel5.size)
    refine (refCRC_any _ _ (a ++ b) _ (all5.below b6)).mono ?_
    rintro e w7 ⟨rfl, b7⟩
    go_wp2_with fail
    have bel7 := bel6.trans (b7.mono bel6.size)
    refine (sum_any _ _ a _ (h1.below bel7)).mono ?_
    rintro e w8 ⟨rfl, b8⟩
    go_wp2_with fail
    have bel8 := bel7.trans (b8.mono bel7.size)
    refine (more_any _ _ _ b _ (h2.below bel8)).mono ?_
    rintro e w9 ⟨rfl, b9⟩
    have hmore : Crc.more (Fr.crc a) (Fr.bv b) = Fr.crc (a ++ b) := by
      unfold Fr.crc; rw [Crc.more_sum]; simp [Fr.bv]
    rw [hmore]
    clear hmore
    go_wp2_with fail
    have bel9 := bel8.trans (b9.mono bel8.size)
    refine (sum_any _ _ (a ++ b) _ (((all5.below b6).below b7).below b8 |>.below b9)).mono ?_
    rintro e w10 ⟨rfl, b10⟩
    go_wp2_with fail
    go_ret
    exact ⟨rfl, bel9.trans (b10.mono bel9.size)⟩
end Go.Proofs.Ytclgnginmgleaaa
