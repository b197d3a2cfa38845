/-
  Walks of the writing of a frame.
-/
import Derived.Test.YtclgnginmgleaaaStream
namespace Go.Proofs.Ytclgnginmgleaaa
open Go Go.RowKit Go.Sort

/-- append, as a step of a region. -/
theorem step_append_sl {P : Program} {w : World} {ops : Array Oper} {o : Oper} {a : Act} {K : Act → World → Prop} {Q : Exit → Act → World → Prop} {E : Prop} (hgd : o.guard = none) (s x : Operand) (t tx e : TypeId)
    (ho : o.op = .call { callee := .builtin .append, args := #[s, x], argTypes := #[t, tx] }) {z : Value} {sz bytes : Nat}
    (ht : P.underlying t = some (.slice e)) (hinfo : (P.info? e).map (fun i => (i.zero, i.size, i.bytes)) = some (some z, sz, bytes)) (hzs : z.cells.size = sz) (hpos : 0 < sz)
    {n m : Nat} {v xv : Value} {blk : Option Nat} {xs ys : List Value} (hv : a.eval s = v) (hx : a.eval x = xv) (h : Sl w sz v blk n xs) (hs : Src P sz tx xv m ys w) (hbig : (3 * (n + m) + 1024) * (bytes + 1) ≤ 281474976710656)
    (hK : ∀ v' w' blk', Sl w' sz v' blk' (n + m) (xs ++ ys) → (blk' = blk ∨ ∃ b, blk' = some b ∧ w.heap.size ≤ b) → Kept (fun k => blk = some k) w w' → K (a.put o.dst v') w') :
    if Region.wanted o (yielded ops a.tmps) = true then Oper.wp P o a w K Q else E := by
  have hw : Region.wanted o (yielded ops a.tmps) = true := by simp [Region.wanted, hgd]
  rw [if_pos hw]
  obtain ⟨i, hi, hz, hsz, hby⟩ : ∃ i, P.info? e = some i ∧ i.zero = some z ∧ i.size = sz ∧ i.bytes = bytes := by
    cases hi : P.info? e with
    | none => rw [hi] at hinfo; simp at hinfo
    | some i => rw [hi] at hinfo; simp at hinfo; exact ⟨i, rfl, hinfo.1, hinfo.2.1, hinfo.2.2⟩
  obtain ⟨v', w', blk', hrun, h1, h2, h3, _⟩ := run_append_sl (P := P) h t tx o.type e i z bytes ht hi hz hsz hby hzs hpos hs hbig
  unfold Oper.wp
  simp [execOp, ho, resolve, invoke, builtin, hv, hx, hrun, Result.andThen]
  exact hK v' w' blk' h1 h2 h3

theorem Sl.capped {w : World} {A : Option Addr} {n c : Nat} {blk : Option Nat} {xs : List Value} (h : Sl w 1 (.slice A n c) blk n xs) (hn : 0 < n) : Sl w 1 (.slice A n n) blk n xs := by
  obtain ⟨hl, ⟨_, _, h0, _⟩ | ⟨b, off, cap, hb, hv, h0, h1, h2, hc, ht⟩⟩ := h
  · omega
  · simp only [Value.slice.injEq, true_and] at hv
    obtain ⟨rfl, rfl⟩ := hv
    exact ⟨hl, .inr ⟨b, off, n, hb, rfl, hn, Nat.le_refl _, by omega, hc, fun j hj => ht j (by omega)⟩⟩

theorem frame_parts (l : List UInt8) : bvals (Fr.frameOf l) = bvals (Fr.headed l) ++ bvals (Fr.sum4 (Fr.headed l)) := by unfold Fr.frameOf; exact bvals_append _ _
theorem head_parts (l : List UInt8) : bvals (Fr.headed l) = [.int .u8 165, .int .u8 ((UInt8.ofNat l.length).toNat : Int)] ++ bvals l := rfl
theorem byte_of (n : Nat) (h : n ≤ 64) : ((UInt8.ofNat n).toNat : Int) = (n : Int) := by
  rw [UInt8.toNat_ofNat']; omega

set_option maxRecDepth 100000 in
set_option maxHeartbeats 400000 in
theorem put_any (a : Option Addr) (c : Nat) (l : List UInt8) (w : World) (h : Rd w 1 (.slice a l.length c) l.length (bvals l)) :
    Calls Try.prog 16 #[.slice a l.length c] w fun e w' => Below w.heap.size w w' ∧ ((¬ (1 ≤ l.length ∧ l.length ≤ 64) ∧ e = .returned (.tuple #[.slice none 0 0, .bool false])) ∨
      ((1 ≤ l.length ∧ l.length ≤ 64) ∧ ∃ v' blk, e = .returned (.tuple #[v', .bool true]) ∧ Sl w' 1 v' blk (l.length + 6) (bvals (Fr.frameOf l)) ∧ ∀ b, blk = some b → w.heap.size ≤ b)) := by
  by_cases hk : 1 ≤ l.length ∧ l.length ≤ 64
  · have hk' : (decide (1 ≤ l.length) && decide (l.length ≤ 64)) = true := by simpa using hk
    have hbel0 : Below w.heap.size w (w.alloc (.cells #[.int .u8 165, .int .u8 (l.length : Int)] 5)) := (Below.refl _ _).alloc (Nat.le_refl _) _
    have sl0 := lit_sl (w := w) (e := 5) [.int .u8 165, .int .u8 (l.length : Int)] 2 rfl (by omega) (by omega)
    have sr1 := (h.below hbel0).srcB
    have hhead := Lib.hid (head_parts l)
    have hfr := Lib.hid (frame_parts l)
    have hby := Lib.hid (byte_of l.length hk.2)
    have hhl : (Fr.headed l).length = l.length + 2 := rfl
    have HHL := Lib.hid hhl
    clear hhl
    generalize hn : l.length = n at *
    have bd1 : (3 * (2 + n) + 1024) * (1 + 1) ≤ 281474976710656 := by omega
    have bd2 : (3 * (2 + n + 4) + 1024) * (1 + 1) ≤ 281474976710656 := by omega
    have i1 : (n : Int) < 256 := by omega
    have i2 : (0 : Int) ≤ (n : Int) := by omega
    have HN := Lib.hid hn
    have HK := Lib.hid hk
    clear hn hk h
    go_enter Try.func16, Try.ntmps16
    go_wp2_with (first | (go_at_call 23; refine (count_any _ _).mono ?_; rintro e w0 ⟨rfl, h0⟩; rw [h0, hk']; clear h0 w0) | (at_builtin; go_must (refine wpList_append_sl rfl _ _ _ _ 5 rfl under22 info5 rfl Nat.zero_lt_one rfl rfl sl0 sr1 bd1 ?_; intro v1 w1 blk1 sl1 fr1 kp1; have bel1 := Kept.toBelow hbel0 kp1 (fun b hb => by obtain rfl := Option.some.inj hb; exact Nat.le_refl _); clear sl0 sr1)) | fail)
    have fr1' := fresh_next (n := w.heap.size) (fun b hb => by obtain rfl := Option.some.inj hb; exact Nat.le_refl _) hbel0.size fr1
    obtain ⟨vb, vo, vc, rfl, rfl, hvc, hvm⟩ : ∃ vb vo vc, blk1 = some vb ∧ v1 = .slice (some ⟨vb, vo, none⟩) (2 + n) vc ∧ 2 + n ≤ vc ∧ vc ≤ maxLen := by
      obtain ⟨_, ⟨_, _, h0, _⟩ | ⟨vb, vo, vc, h0, hv, _, h2, h3, _⟩⟩ := sl1
      · omega
      · exact ⟨vb, vo, vc, h0, hv, h2, h3⟩
    have hvb := fr1' vb rfl
    have hv8 : ([.int .u8 165, .int .u8 (n : Int)] ++ bvals l : List Value) = bvals (Fr.headed l) := by rw [hhead.out, hby.out]
    rw [hv8] at sl1
    clear hv8
    have slD := sl1.below (below_drew _) Nat.zero_lt_one
    have slC := slD.capped (by omega)
    have slR := slD.rd
    obtain ⟨N, hN⟩ : ∃ N, N = 2 + n := ⟨_, rfl⟩
    rw [← hN] at slD slC slR sl1 bd2 hvc ⊢
    have n1 : (0 : Int) ≤ (N : Int) := by omega
    have n2 : (N : Int) ≤ (vc : Int) := by omega
    have n3 : ¬ N = 0 := by omega
    have hN' := Lib.hid hN
    clear hN fr1 kp1 sl1 slD bd1
    go_region_held3 (fun _ => True) (trivial) (first | (go_at_call 24; refine (fsum_any _ _ _ _ slR).mono ?_; rintro e w2 ⟨v2, b2, rfl, hb2, sl2, bel2⟩) | (refine step_append_sl rfl _ _ _ _ 5 rfl under22 info5 rfl Nat.zero_lt_one rfl rfl (slC.below bel2 Nat.zero_lt_one) (sl2.src (bvals_one _) under22) bd2 ?_; intro v3 w3 blk3 sl3 fr3 kp3))
    go_wp2
    go_ret2
    have hB := bel1.trans (((below_drew w1).trans bel2).mono bel1.size)
    have hC := Kept.toBelow hB kp3 (fun b hb => by obtain rfl := Option.some.inj hb; exact hvb)
    refine ⟨hC, .inr ⟨HK.out, v3, blk3, rfl, ?_, fresh_next (fun b hb => by obtain rfl := Option.some.inj hb; exact hvb) hB.size fr3⟩⟩
    rw [hfr.out, show n + 6 = N + 4 by have := hN'.out; omega]
    exact sl3
  · have hk' : (decide (1 ≤ l.length) && decide (l.length ≤ 64)) = false := by
      rw [Bool.eq_false_iff]; intro h; apply hk; simpa using h
    go_enter Try.func16, Try.ntmps16
    go_wp2_with (first | (go_at_call 23; refine (count_any _ _).mono ?_; rintro e w0 ⟨rfl, h0⟩; rw [h0, hk']; clear h0 w0))
    go_ret2
    exact ⟨Below.refl _ _, .inl ⟨hk, rfl⟩⟩
theorem shr8 (q : BitVec 32) (k : Nat) (d : Int) (hd : (2 : Int) ^ k = d) : ((q.toNat : Int) / d) % 256 = ((Fr.byteAt q k).toNat : Int) := by
  rw [← hd]; exact low8 q k
theorem and255 (x : BitVec 32) : bits .and .u32 (x.toNat : Int) 255 = (x.toNat : Int) % 256 := by
  have h := bv_and32 x 255#32
  have e : ((255#32 : BitVec 32).toNat : Int) = 255 := rfl
  rw [e] at h
  rw [h, BitVec.toNat_and]
  have : x.toNat &&& (255#32).toNat = x.toNat % 256 := Nat.and_two_pow_sub_one_eq_mod x.toNat 8
  rw [this]; omega
theorem and255' (q : BitVec 32) (k : Nat) (d : Int) (hd : (2 : Int) ^ k = d) : bits .and .u32 ((q.toNat : Int) / d) 255 = ((Fr.byteAt q k).toNat : Int) := by
  rw [← hd, bv_shr32, and255, ← bv_shr32]; exact low8 q k

set_option maxRecDepth 100000 in
set_option maxHeartbeats 400000 in
theorem refFrame_any (a : Option Addr) (c : Nat) (l : List UInt8) (w : World) (h : Rd w 1 (.slice a l.length c) l.length (bvals l)) (hk : l.length ≤ 64) :
    Calls Try.prog 17 #[.slice a l.length c] w fun e w' => Below w.heap.size w w' ∧ ∃ v' blk, e = .returned v' ∧ Sl w' 1 v' blk (l.length + 6) (bvals (Fr.frameOf l)) ∧ ∀ b, blk = some b → w.heap.size ≤ b := by
  have hbel0 : Below w.heap.size w (w.alloc (.cells #[.int .u8 165, .int .u8 (l.length : Int)] 5)) := (Below.refl _ _).alloc (Nat.le_refl _) _
  have sl0 := lit_sl (w := w) (e := 5) [.int .u8 165, .int .u8 (l.length : Int)] 2 rfl (by omega) (by omega)
  have sr1 := (h.below hbel0).srcB
  have hhead := Lib.hid (head_parts l)
  have hfr := Lib.hid (frame_parts l)
  have hby := Lib.hid (byte_of l.length hk)
  generalize hn : l.length = n at *
  have bd1 : (3 * (2 + n) + 1024) * (1 + 1) ≤ 281474976710656 := by omega
  have bd2 : (3 * (2 + n + 4) + 1024) * (1 + 1) ≤ 281474976710656 := by omega
  have i1 : (n : Int) < 256 := by omega
  have i2 : (0 : Int) ≤ (n : Int) := by omega
  have HN := Lib.hid hn
  have HK := Lib.hid hk
  clear hn hk h
  go_enter Try.func17, Try.ntmps17
  go_wp2_with (first | (at_builtin; go_must (refine wpList_append_sl rfl _ _ _ _ 5 rfl under22 info5 rfl Nat.zero_lt_one rfl rfl sl0 sr1 bd1 ?_; intro v1 w1 blk1 sl1 fr1 kp1; have bel1 := Kept.toBelow hbel0 kp1 (fun b hb => by obtain rfl := Option.some.inj hb; exact Nat.le_refl _); clear sl0 sr1)) | fail)
  have fr1' := fresh_next (n := w.heap.size) (fun b hb => by obtain rfl := Option.some.inj hb; exact Nat.le_refl _) hbel0.size fr1
  have hv8 : ([.int .u8 165, .int .u8 (n : Int)] ++ bvals l : List Value) = bvals (Fr.headed l) := by rw [hhead.out, hby.out]
  rw [hv8] at sl1
  clear hv8
  refine (refCRC_any _ _ _ _ sl1.rd).mono ?_
  rintro e w2 ⟨rfl, bel2⟩
  have sl2 := sl1.below bel2 Nat.zero_lt_one
  have e24 := shr8 (Fr.crc (Fr.headed l)) 24 16777216 rfl
  have e16 := and255' (Fr.crc (Fr.headed l)) 16 65536 rfl
  have e8 := and255' (Fr.crc (Fr.headed l)) 8 256 rfl
  have e0 := and255' (Fr.crc (Fr.headed l)) 0 1 rfl
  rw [Int.ediv_one] at e0
  have e24' : ((Fr.crc (Fr.headed l)).toNat : Int) / 16777216 = ((Fr.byteAt (Fr.crc (Fr.headed l)) 24).toNat : Int) := by
    rw [← e24]; have := (Fr.crc (Fr.headed l)).isLt; omega
  have l24 : ((Fr.byteAt (Fr.crc (Fr.headed l)) 24).toNat : Int) < 256 := by have := (Fr.byteAt (Fr.crc (Fr.headed l)) 24).toNat_lt; omega
  have l16 : ((Fr.byteAt (Fr.crc (Fr.headed l)) 16).toNat : Int) < 256 := by have := (Fr.byteAt (Fr.crc (Fr.headed l)) 16).toNat_lt; omega
  have l8 : ((Fr.byteAt (Fr.crc (Fr.headed l)) 8).toNat : Int) < 256 := by have := (Fr.byteAt (Fr.crc (Fr.headed l)) 8).toNat_lt; omega
  have l0 : ((Fr.byteAt (Fr.crc (Fr.headed l)) 0).toNat : Int) < 256 := by have := (Fr.byteAt (Fr.crc (Fr.headed l)) 0).toNat_lt; omega
  have hs4 : bvals (Fr.sum4 (Fr.headed l)) = [.int .u8 ((Fr.byteAt (Fr.crc (Fr.headed l)) 24).toNat : Int), .int .u8 ((Fr.byteAt (Fr.crc (Fr.headed l)) 16).toNat : Int), .int .u8 ((Fr.byteAt (Fr.crc (Fr.headed l)) 8).toNat : Int), .int .u8 ((Fr.byteAt (Fr.crc (Fr.headed l)) 0).toNat : Int)] := rfl
  have HS4 := Lib.hid hs4
  clear e24 hs4
  generalize (Fr.byteAt (Fr.crc (Fr.headed l)) 24).toNat = x3 at *
  generalize (Fr.byteAt (Fr.crc (Fr.headed l)) 16).toNat = x2 at *
  generalize (Fr.byteAt (Fr.crc (Fr.headed l)) 8).toNat = x1 at *
  generalize (Fr.byteAt (Fr.crc (Fr.headed l)) 0).toNat = x0 at *
  generalize Fr.crc (Fr.headed l) = q at *
  have hbel3 := below_drew w2
  have sr4 := (lit_sl (w := w2) (e := 5) [.int .u8 (x3 : Int), .int .u8 (x2 : Int), .int .u8 (x1 : Int), .int .u8 (x0 : Int)] 4 rfl (by omega) (by omega)).src (P := Try.prog) (by intro u hu; simp at hu; rcases hu with rfl | rfl | rfl | rfl <;> rfl) (tx := 22) (e' := 5) under22
  have sl4 := sl2.below ((Below.refl _ w2).alloc (Nat.le_refl _) (.cells #[.int .u8 (x3 : Int), .int .u8 (x2 : Int), .int .u8 (x1 : Int), .int .u8 (x0 : Int)] 5)) Nat.zero_lt_one
  clear sl1 sl2 fr1 kp1
  go_wp2_with (first | (at_builtin; go_must (refine wpList_append_sl rfl _ _ _ _ 5 rfl under22 info5 rfl Nat.zero_lt_one rfl rfl sl4 sr4 bd2 ?_; intro v3 w3 blk3 sl3 fr3 kp3)) | fail)
  go_ret
  have hB := bel1.trans (bel2.mono bel1.size)
  have hB2 := hB.alloc hB.size (.cells #[.int .u8 (x3 : Int), .int .u8 (x2 : Int), .int .u8 (x1 : Int), .int .u8 (x0 : Int)] 5)
  have hC := Kept.toBelow hB2 kp3 fr1'
  refine ⟨hC, v3, blk3, rfl, ?_, fresh_next fr1' hB2.size fr3⟩
  rw [hfr.out, HS4.out, show n + 6 = 2 + n + 4 by omega]
  exact sl3
end Go.Proofs.Ytclgnginmgleaaa
