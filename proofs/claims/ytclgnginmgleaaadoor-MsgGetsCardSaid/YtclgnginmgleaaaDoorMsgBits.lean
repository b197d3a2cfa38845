/-
  Walks of package msg: a number's bytes.
-/
import Derived.Test.YtclgnginmgleaaaDoorMsg
namespace Go.Proofs.YtclgnginmgleaaaDoor
open Go Go.RowKit Go.Sort

theorem byteOf_toNat (n : Int) : ((M.byteOf n).toNat : Int) = n % 256 := by
  unfold M.byteOf
  rw [UInt8.toNat_ofNat']
  have h1 : 0 ≤ n % 256 := Int.emod_nonneg _ (by omega)
  have h2 : n % 256 < 256 := Int.emod_lt_of_pos _ (by omega)
  omega

/-- What waits behind k bytes. -/
def BitsRel (blk : Option Nat) (m : Nat) (l be : List UInt8) (w : World) (bv iv : Value) (wr : World) : Prop :=
  ∃ (k : Nat) (A : Option Addr) (C : Nat) (blk' : Option Nat), k ≤ be.length ∧ iv = .int .i64 k ∧ bv = .slice A (m + k) C ∧ Sl wr 1 bv blk' (m + k) (bvals (l ++ be.take k)) ∧ (blk' = blk ∨ ∃ b, blk' = some b ∧ w.heap.size ≤ b) ∧ Kept (fun k => blk = some k) w wr

theorem fresh_trans {w w1 : World} {b0 b1 b2 : Option Nat} (h1 : b1 = b0 ∨ ∃ b, b1 = some b ∧ w.heap.size ≤ b) (hs : w.heap.size ≤ w1.heap.size) (h2 : b2 = b1 ∨ ∃ b, b2 = some b ∧ w1.heap.size ≤ b) : b2 = b0 ∨ ∃ b, b2 = some b ∧ w.heap.size ≤ b := by
  rcases h2 with rfl | ⟨b, rfl, h⟩
  · exact h1
  · exact .inr ⟨b, rfl, Nat.le_trans hs h⟩
theorem kept_fresh {w w1 w2 : World} {b0 b1 : Option Nat} (k1 : Kept (fun k => b0 = some k) w w1) (h1 : b1 = b0 ∨ ∃ b, b1 = some b ∧ w.heap.size ≤ b) (k2 : Kept (fun k => b1 = some k) w1 w2) : Kept (fun k => b0 = some k) w w2 :=
  k1.trans k2 fun i hi h => by
    rcases h1 with rfl | ⟨b, rfl, hb⟩
    · exact h
    · obtain rfl := Option.some.inj h; omega

theorem bits_step {blk blk' : Option Nat} {m : Nat} {l be : List UInt8} {w wr : World} {A' : Option Addr} {C' : Nat} {x : UInt8} (k : Nat) (y : Int) (hb : be[k]? = some x) (hx : (x.toNat : Int) = y) (hm : m ≤ 100 ∧ k ≤ 100)
    (hsl : Sl wr 1 (.slice A' (m + k) C') blk' (m + k) (bvals (l ++ be.take k))) (hfr : blk' = blk ∨ ∃ b, blk' = some b ∧ w.heap.size ≤ b) (hkp : Kept (fun k => blk = some k) w wr) :
    Sl (wr.alloc (.cells #[.int .u8 y] 5)) 1 (.slice A' (m + k) C') blk' (m + k) (bvals (l ++ be.take k)) ∧ Src Tryd.prog 1 26 (.slice (some ⟨wr.heap.size, 0, none⟩) 1 1) 1 [.int .u8 y] (wr.alloc (.cells #[.int .u8 y] 5)) ∧ (3 * (m + k + 1) + 1024) * (1 + 1) ≤ 281474976710656 ∧
      ∀ (v1 : Value) (w1 : World) (blk1 : Option Nat), Sl w1 1 v1 blk1 (m + k + 1) (bvals (l ++ be.take k) ++ [.int .u8 y]) → (blk1 = blk' ∨ ∃ b, blk1 = some b ∧ (wr.alloc (.cells #[.int .u8 y] 5)).heap.size ≤ b) → Kept (fun k => blk' = some k) (wr.alloc (.cells #[.int .u8 y] 5)) w1 →
        (∃ A1 N1 C1, v1 = .slice A1 N1 C1) ∧ BitsRel blk m l be w v1 (.int .i64 ((k + 1 : Nat) : Int)) w1 := by
  subst hx
  have hbA : Below wr.heap.size wr (wr.alloc (.cells #[.int .u8 (x.toNat : Int)] 5)) := (Below.refl _ _).alloc (Nat.le_refl _) _
  refine ⟨hsl.below hbA Nat.zero_lt_one, (lit_sl (w := wr) (e := 5) [.int .u8 (x.toNat : Int)] 1 rfl (by omega) (by omega)).src (P := Tryd.prog) (by intro u hu; simp at hu; subst hu; rfl) (tx := 26) (e' := 5) under22, by omega, ?_⟩
  intro v1 w1 blk1 sl1 fr1 kp1
  obtain ⟨hkl, hkx⟩ := List.getElem?_eq_some_iff.1 hb
  have e : bvals (l ++ be.take k) ++ [.int .u8 (x.toNat : Int)] = bvals (l ++ be.take (k + 1)) := by
    rw [List.take_succ_eq_append_getElem hkl, hkx]; simp [bvals]
  rw [e] at sl1
  obtain ⟨A1, C1, rfl⟩ := sl1.rd.len
  have hkA : Kept (fun k => blk = some k) w (wr.alloc (.cells #[.int .u8 (x.toNat : Int)] 5)) := hkp.alloc _
  exact ⟨⟨_, _, _, rfl⟩, k + 1, A1, C1, blk1, hkl, rfl, rfl, sl1, fresh_trans hfr hkA.size fr1, kept_fresh hkA hfr kp1⟩
theorem bits_end {blk blk' : Option Nat} {m : Nat} {l be : List UInt8} {w wr : World} {A' : Option Addr} {C' : Nat} {s : Nat} (hsl : Sl wr 1 (.slice A' (m + s) C') blk' (m + s) (bvals (l ++ be.take s))) (hfr : blk' = blk ∨ ∃ b, blk' = some b ∧ w.heap.size ≤ b) (hkp : Kept (fun k => blk = some k) w wr) (hs : be.length = s := by rfl) :
    ∃ v' blk2, Ending.returned (.slice A' (m + s) C') = .returned v' ∧ Sl wr 1 v' blk2 (m + s) (bvals (l ++ be)) ∧ (blk2 = blk ∨ ∃ b, blk2 = some b ∧ w.heap.size ≤ b) ∧ Kept (fun k => blk = some k) w wr := by
  rw [List.take_of_length_le (by omega)] at hsl
  exact ⟨_, blk', rfl, hsl, hfr, hkp⟩

set_option maxRecDepth 100000 in
set_option maxHeartbeats 800000 in
theorem bits2_any (v : Value) (blk : Option Nat) (m : Nat) (l : List UInt8) (n : Int) (w : World) (h : Sl w 1 v blk m (bvals l)) (hm : m ≤ 100) (h0 : 0 ≤ n) (h1 : n ≤ 2147483647) :
    Calls Tryd.prog 16 #[v, .int .i64 n, .int .i64 2] w fun e w' => ∃ v' blk', e = .returned v' ∧ Sl w' 1 v' blk' (m + 2) (bvals (l ++ M.be2 n)) ∧ (blk' = blk ∨ ∃ b, blk' = some b ∧ w.heap.size ≤ b) ∧ Kept (fun k => blk = some k) w w' := by
  have H := Lib.hid h
  obtain ⟨A, C, rfl⟩ := h.rd.len
  clear h
  go_enter Tryd.func16, Tryd.ntmps16
  go_wp2_with fail
  go_loopw [0, 9] (fun bv i wr => BitsRel blk m l (M.be2 n) w bv i wr) (fun _ i _ => 2 - (intOf i).toNat)
  case atStart => exact ⟨0, A, C, blk, Nat.zero_le _, rfl, rfl, by simpa using H.out, .inl rfl, Kept.refl _ _⟩
  case round =>
    obtain ⟨k, A', C', blk', hk, rfl, rfl, hsl, hfr, hkp⟩ := hrel
    have hk2 : k ≤ 2 := hk
    rcases (show k = 0 ∨ k = 1 ∨ k = 2 by omega) with rfl | rfl | rfl
    · have hx : ((M.byteOf (n / 256)).toNat : Int) = n / 256 % 256 := byteOf_toNat _
      have hs := bits_step (l := l) (be := M.be2 n) (x := M.byteOf (n / 256)) 0 (n / 256 % 256) rfl hx ⟨hm, by omega⟩ hsl hfr hkp
      have HS := Lib.hid hs
      clear hs hsl hfr hkp hk2 hk hx
      go_wp2_with (first | (at_builtin; (refine wpList_append_sl rfl _ _ 26 26 5 rfl under22 info5 rfl Nat.zero_lt_one rfl rfl HS.out.1 HS.out.2.1 HS.out.2.2.1 ?_); intro v1 w1 blk1 sl1 fr1 kp1; obtain ⟨⟨A1, N1, C1, rfl⟩, FF⟩ := HS.out.2.2.2 v1 w1 blk1 sl1 fr1 kp1; have FF' := Lib.hid FF; clear sl1 fr1 kp1 FF) | fail)
      exact ⟨FF'.out, by simp [intOf]⟩
    · have hx : ((M.byteOf (n)).toNat : Int) = n % 256 := byteOf_toNat _
      have hs := bits_step (l := l) (be := M.be2 n) (x := M.byteOf (n)) 1 (n % 256) rfl hx ⟨hm, by omega⟩ hsl hfr hkp
      have HS := Lib.hid hs
      clear hs hsl hfr hkp hk2 hk hx
      go_wp2_with (first | (at_builtin; (refine wpList_append_sl rfl _ _ 26 26 5 rfl under22 info5 rfl Nat.zero_lt_one rfl rfl HS.out.1 HS.out.2.1 HS.out.2.2.1 ?_); intro v1 w1 blk1 sl1 fr1 kp1; obtain ⟨⟨A1, N1, C1, rfl⟩, FF⟩ := HS.out.2.2.2 v1 w1 blk1 sl1 fr1 kp1; have FF' := Lib.hid FF; clear sl1 fr1 kp1 FF) | fail)
      exact ⟨FF'.out, by simp [intOf]⟩
    · have HP := Lib.hid (bits_end hsl hfr hkp)
      clear hsl hfr hkp hk2 hk
      go_wp2_with fail
      go_ret
      exact HP.out
set_option maxRecDepth 100000 in
set_option maxHeartbeats 800000 in
theorem bits4_any (v : Value) (blk : Option Nat) (m : Nat) (l : List UInt8) (n : Int) (w : World) (h : Sl w 1 v blk m (bvals l)) (hm : m ≤ 100) (h0 : 0 ≤ n) (h1 : n ≤ 2147483647) :
    Calls Tryd.prog 16 #[v, .int .i64 n, .int .i64 4] w fun e w' => ∃ v' blk', e = .returned v' ∧ Sl w' 1 v' blk' (m + 4) (bvals (l ++ M.be4 n)) ∧ (blk' = blk ∨ ∃ b, blk' = some b ∧ w.heap.size ≤ b) ∧ Kept (fun k => blk = some k) w w' := by
  have H := Lib.hid h
  obtain ⟨A, C, rfl⟩ := h.rd.len
  clear h
  go_enter Tryd.func16, Tryd.ntmps16
  go_wp2_with fail
  go_loopw [0, 9] (fun bv i wr => BitsRel blk m l (M.be4 n) w bv i wr) (fun _ i _ => 4 - (intOf i).toNat)
  case atStart => exact ⟨0, A, C, blk, Nat.zero_le _, rfl, rfl, by simpa using H.out, .inl rfl, Kept.refl _ _⟩
  case round =>
    obtain ⟨k, A', C', blk', hk, rfl, rfl, hsl, hfr, hkp⟩ := hrel
    have hk4 : k ≤ 4 := hk
    rcases (show k = 0 ∨ k = 1 ∨ k = 2 ∨ k = 3 ∨ k = 4 by omega) with rfl | rfl | rfl | rfl | rfl
    · have hx : ((M.byteOf (n / 16777216)).toNat : Int) = n / 16777216 := by rw [byteOf_toNat]; omega
      have hs := bits_step (l := l) (be := M.be4 n) (x := M.byteOf (n / 16777216)) 0 (n / 16777216) rfl hx ⟨hm, by omega⟩ hsl hfr hkp
      have HS := Lib.hid hs
      clear hs hsl hfr hkp hk4 hk hx
      go_wp2_with (first | (at_builtin; (refine wpList_append_sl rfl _ _ 26 26 5 rfl under22 info5 rfl Nat.zero_lt_one rfl rfl HS.out.1 HS.out.2.1 HS.out.2.2.1 ?_); intro v1 w1 blk1 sl1 fr1 kp1; obtain ⟨⟨A1, N1, C1, rfl⟩, FF⟩ := HS.out.2.2.2 v1 w1 blk1 sl1 fr1 kp1; have FF' := Lib.hid FF; clear sl1 fr1 kp1 FF) | fail)
      exact ⟨FF'.out, by simp [intOf]⟩
    · have hx : ((M.byteOf (n / 65536)).toNat : Int) = n / 65536 % 256 := byteOf_toNat _
      have hs := bits_step (l := l) (be := M.be4 n) (x := M.byteOf (n / 65536)) 1 (n / 65536 % 256) rfl hx ⟨hm, by omega⟩ hsl hfr hkp
      have HS := Lib.hid hs
      clear hs hsl hfr hkp hk4 hk hx
      go_wp2_with (first | (at_builtin; (refine wpList_append_sl rfl _ _ 26 26 5 rfl under22 info5 rfl Nat.zero_lt_one rfl rfl HS.out.1 HS.out.2.1 HS.out.2.2.1 ?_); intro v1 w1 blk1 sl1 fr1 kp1; obtain ⟨⟨A1, N1, C1, rfl⟩, FF⟩ := HS.out.2.2.2 v1 w1 blk1 sl1 fr1 kp1; have FF' := Lib.hid FF; clear sl1 fr1 kp1 FF) | fail)
      exact ⟨FF'.out, by simp [intOf]⟩
    · have hx : ((M.byteOf (n / 256)).toNat : Int) = n / 256 % 256 := byteOf_toNat _
      have hs := bits_step (l := l) (be := M.be4 n) (x := M.byteOf (n / 256)) 2 (n / 256 % 256) rfl hx ⟨hm, by omega⟩ hsl hfr hkp
      have HS := Lib.hid hs
      clear hs hsl hfr hkp hk4 hk hx
      go_wp2_with (first | (at_builtin; (refine wpList_append_sl rfl _ _ 26 26 5 rfl under22 info5 rfl Nat.zero_lt_one rfl rfl HS.out.1 HS.out.2.1 HS.out.2.2.1 ?_); intro v1 w1 blk1 sl1 fr1 kp1; obtain ⟨⟨A1, N1, C1, rfl⟩, FF⟩ := HS.out.2.2.2 v1 w1 blk1 sl1 fr1 kp1; have FF' := Lib.hid FF; clear sl1 fr1 kp1 FF) | fail)
      exact ⟨FF'.out, by simp [intOf]⟩
    · have hx : ((M.byteOf (n)).toNat : Int) = n % 256 := byteOf_toNat _
      have hs := bits_step (l := l) (be := M.be4 n) (x := M.byteOf (n)) 3 (n % 256) rfl hx ⟨hm, by omega⟩ hsl hfr hkp
      have HS := Lib.hid hs
      clear hs hsl hfr hkp hk4 hk hx
      go_wp2_with (first | (at_builtin; (refine wpList_append_sl rfl _ _ 26 26 5 rfl under22 info5 rfl Nat.zero_lt_one rfl rfl HS.out.1 HS.out.2.1 HS.out.2.2.1 ?_); intro v1 w1 blk1 sl1 fr1 kp1; obtain ⟨⟨A1, N1, C1, rfl⟩, FF⟩ := HS.out.2.2.2 v1 w1 blk1 sl1 fr1 kp1; have FF' := Lib.hid FF; clear sl1 fr1 kp1 FF) | fail)
      exact ⟨FF'.out, by simp [intOf]⟩
    · have HP := Lib.hid (bits_end hsl hfr hkp)
      clear hsl hfr hkp hk4 hk
      go_wp2_with fail
      go_ret
      exact HP.out
end Go.Proofs.YtclgnginmgleaaaDoor
