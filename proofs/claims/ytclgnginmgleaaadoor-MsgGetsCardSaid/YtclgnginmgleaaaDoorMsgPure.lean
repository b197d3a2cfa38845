/-
  Plain laws of packets' bytes, without Go: what is put is read again, and the other way round.
-/
import Derived.Test.YtclgnginmgleaaaDoorModel
namespace Go.Proofs.YtclgnginmgleaaaDoor.M

theorem byteOf_toNat (n : Int) : (byteOf n).toNat = (n % 256).toNat := by unfold byteOf; simp; omega
theorem byteOf_toInt (n : Int) : ((byteOf n).toNat : Int) = n % 256 := by rw [byteOf_toNat]; omega
theorem byteOf_byte (x : UInt8) : byteOf (x.toNat : Int) = x := by
  apply UInt8.toNat_inj.1; rw [byteOf_toNat]; have := x.toNat_lt; omega

theorem number2 (x y : UInt8) : numberOf [x, y] = x.toNat * 256 + y.toNat := by simp [numberOf]
theorem number4 (x y z t : UInt8) : numberOf [x, y, z, t] = ((x.toNat * 256 + y.toNat) * 256 + z.toNat) * 256 + t.toNat := by simp [numberOf]

theorem number_be2 (n : Int) (h0 : 0 ≤ n) (h1 : n ≤ 65535) : numberOf (be2 n) = n := by
  unfold be2; rw [number2]; simp only [byteOf_toInt]; omega
theorem number_be4 (n : Int) (h0 : 0 ≤ n) (h1 : n ≤ 2147483647) : numberOf (be4 n) = n := by
  unfold be4; rw [number4]; simp only [byteOf_toInt]; omega
theorem be2_number (x y : UInt8) : be2 (numberOf [x, y]) = [x, y] := by
  rw [number2]; unfold be2
  have hx := x.toNat_lt; have hy := y.toNat_lt
  rw [show ((x.toNat : Int) * 256 + y.toNat) / 256 = x.toNat by omega, byteOf_byte]
  have : byteOf ((x.toNat : Int) * 256 + y.toNat) = y := by apply UInt8.toNat_inj.1; rw [byteOf_toNat]; omega
  rw [this]
theorem be4_number (x y z t : UInt8) : be4 (numberOf [x, y, z, t]) = [x, y, z, t] := by
  rw [number4]; unfold be4
  have hx := x.toNat_lt; have hy := y.toNat_lt; have hz := z.toNat_lt; have ht := t.toNat_lt
  have e1 : byteOf ((((x.toNat * 256 + y.toNat) * 256 + z.toNat) * 256 + t.toNat : Int) / 16777216) = x := by apply UInt8.toNat_inj.1; rw [byteOf_toNat]; omega
  have e2 : byteOf ((((x.toNat * 256 + y.toNat) * 256 + z.toNat) * 256 + t.toNat : Int) / 65536) = y := by apply UInt8.toNat_inj.1; rw [byteOf_toNat]; omega
  have e3 : byteOf ((((x.toNat * 256 + y.toNat) * 256 + z.toNat) * 256 + t.toNat : Int) / 256) = z := by apply UInt8.toNat_inj.1; rw [byteOf_toNat]; omega
  have e4 : byteOf (((x.toNat * 256 + y.toNat) * 256 + z.toNat) * 256 + t.toNat : Int) = t := by apply UInt8.toNat_inj.1; rw [byteOf_toNat]; omega
  rw [e1, e2, e3, e4]

theorem good_bounds (p : Packet) (h : p.good = true) : (0 ≤ p.session ∧ p.session ≤ 255) ∧ (0 ≤ p.epoch ∧ p.epoch ≤ 65535) ∧ (0 ≤ p.seq ∧ p.seq ≤ 65535) ∧ (0 ≤ p.ack ∧ p.ack ≤ 65535) ∧
    ((p.has = false ∧ p.msg = Msg.zero) ∨ (p.has = true ∧ (1 ≤ p.msg.kind ∧ p.msg.kind ≤ 16) ∧ (0 ≤ p.msg.a ∧ p.msg.a ≤ 2147483647) ∧ (0 ≤ p.msg.b ∧ p.msg.b ≤ 2147483647) ∧ (0 ≤ p.msg.c ∧ p.msg.c ≤ 2147483647))) := by
  simpa [Packet.good, inside, kindOk, and_assoc] using h

theorem bytes_length (p : Packet) : p.bytes.length = if p.has then 21 else 8 := by
  unfold Packet.bytes be2 be4; cases p.has <;> simp

/-- What is put is read again. -/
theorem get_put (p : Packet) (h : p.good = true) : msgGet p.bytes = (p, 0) := by
  obtain ⟨⟨s0, s1⟩, ⟨e0, e1⟩, ⟨q0, q1⟩, ⟨a0, a1⟩, hm⟩ := good_bounds p h
  obtain ⟨se, ep, sq, ac, has, ⟨k, ma, mb, mc⟩⟩ := p
  simp only at *
  rcases hm with ⟨rfl, hz⟩ | ⟨rfl, ⟨k0, k1⟩, ⟨ma0, ma1⟩, ⟨mb0, mb1⟩, mc0, mc1⟩
  · obtain ⟨rfl, rfl, rfl, rfl⟩ : k = 0 ∧ ma = 0 ∧ mb = 0 ∧ mc = 0 := by simpa [Msg.zero] using hz
    have hb : (Packet.bytes ⟨se, ep, sq, ac, false, ⟨0, 0, 0, 0⟩⟩) = [1, byteOf se, byteOf (ep / 256), byteOf ep, byteOf (sq / 256), byteOf sq, byteOf (ac / 256), byteOf ac] := by simp [Packet.bytes, be2]
    rw [hb]
    simp only [msgGet, List.length_cons, List.length_nil, List.getD_cons_zero]
    simp only [shortOf, List.getD_cons_succ, List.getD_cons_zero, List.drop_succ_cons, List.drop_zero, List.take_succ_cons, List.take_zero]
    have h1 := number_be2 ep e0 e1
    have h2 := number_be2 sq q0 q1
    have h3 := number_be2 ac a0 a1
    unfold be2 at h1 h2 h3
    rw [h1, h2, h3, byteOf_toInt]
    simp [Msg.zero]; omega
  · have hb : (Packet.bytes ⟨se, ep, sq, ac, true, ⟨k, ma, mb, mc⟩⟩) = [1, byteOf se, byteOf (ep / 256), byteOf ep, byteOf (sq / 256), byteOf sq, byteOf (ac / 256), byteOf ac, byteOf k,
        byteOf (ma / 16777216), byteOf (ma / 65536), byteOf (ma / 256), byteOf ma, byteOf (mb / 16777216), byteOf (mb / 65536), byteOf (mb / 256), byteOf mb, byteOf (mc / 16777216), byteOf (mc / 65536), byteOf (mc / 256), byteOf mc] := by simp [Packet.bytes, be2, be4]
    rw [hb]
    have hl : longOf [1, byteOf se, byteOf (ep / 256), byteOf ep, byteOf (sq / 256), byteOf sq, byteOf (ac / 256), byteOf ac, byteOf k,
        byteOf (ma / 16777216), byteOf (ma / 65536), byteOf (ma / 256), byteOf ma, byteOf (mb / 16777216), byteOf (mb / 65536), byteOf (mb / 256), byteOf mb, byteOf (mc / 16777216), byteOf (mc / 65536), byteOf (mc / 256), byteOf mc] = ⟨se, ep, sq, ac, true, ⟨k, ma, mb, mc⟩⟩ := by
      simp only [longOf, shortOf, List.getD_cons_succ, List.getD_cons_zero, List.drop_succ_cons, List.drop_zero, List.take_succ_cons, List.take_zero]
      have h1 := number_be2 ep e0 e1
      have h2 := number_be2 sq q0 q1
      have h3 := number_be2 ac a0 a1
      have h4 := number_be4 ma ma0 ma1
      have h5 := number_be4 mb mb0 mb1
      have h6 := number_be4 mc mc0 mc1
      unfold be2 at h1 h2 h3
      unfold be4 at h4 h5 h6
      rw [h1, h2, h3, h4, h5, h6, byteOf_toInt, byteOf_toInt]
      have : se % 256 = se := by omega
      have : k % 256 = k := by omega
      simp [*]
    unfold msgGet
    rw [hl]
    have hk : kindOk k = true := by simp [kindOk]; omega
    simp [hk, h]

theorem list8 (b : List UInt8) (h : b.length = 8) : ∃ x0 x1 x2 x3 x4 x5 x6 x7, b = [x0, x1, x2, x3, x4, x5, x6, x7] := by
  match b, h with
  | [x0, x1, x2, x3, x4, x5, x6, x7], _ => exact ⟨_, _, _, _, _, _, _, _, rfl⟩
theorem list21 (b : List UInt8) (h : b.length = 21) : ∃ x0 x1 x2 x3 x4 x5 x6 x7 x8 y0 y1 y2 y3 z0 z1 z2 z3 t0 t1 t2 t3, b = [x0, x1, x2, x3, x4, x5, x6, x7, x8, y0, y1, y2, y3, z0, z1, z2, z3, t0, t1, t2, t3] := by
  match b, h with
  | [x0, x1, x2, x3, x4, x5, x6, x7, x8, y0, y1, y2, y3, z0, z1, z2, z3, t0, t1, t2, t3], _ => exact ⟨_, _, _, _, _, _, _, _, _, _, _, _, _, _, _, _, _, _, _, _, _, rfl⟩

theorem number2_range (x y : UInt8) : 0 ≤ numberOf [x, y] ∧ numberOf [x, y] ≤ 65535 := by
  rw [number2]; have := x.toNat_lt; have := y.toNat_lt; omega

/-- What is read is put again. -/
theorem put_get (b : List UInt8) (h : (msgGet b).2 = 0) : msgPut (msgGet b).1 = some b := by
  unfold msgGet at h ⊢
  by_cases h0 : (b.length ≠ 8 ∧ b.length ≠ 21) ∨ b.getD 0 0 ≠ 1
  · rw [if_pos h0] at h; simp at h
  · rw [if_neg h0] at h ⊢
    have hone : b.getD 0 0 = 1 := by
      by_cases hh : b.getD 0 0 = 1
      · exact hh
      · exact absurd (.inr hh) h0
    by_cases h8 : b.length = 8
    · rw [if_pos h8]
      obtain ⟨x0, x1, x2, x3, x4, x5, x6, x7, rfl⟩ := list8 b h8
      simp only [List.getD_cons_zero] at hone
      subst hone
      simp only [shortOf, List.getD_cons_succ, List.getD_cons_zero, List.drop_succ_cons, List.drop_zero, List.take_succ_cons, List.take_zero]
      have r1 := number2_range x2 x3
      have r2 := number2_range x4 x5
      have r3 := number2_range x6 x7
      have rs := x1.toNat_lt
      have hg : (⟨x1.toNat, numberOf [x2, x3], numberOf [x4, x5], numberOf [x6, x7], false, Msg.zero⟩ : Packet).good = true := by
        simp [Packet.good, inside]; omega
      rw [msgPut, if_pos hg]
      simp [Packet.bytes, be2_number, byteOf_byte]
    · rw [if_neg h8] at h ⊢
      have h21 : b.length = 21 := by
        by_cases hh : b.length = 21
        · exact hh
        · exact absurd (.inl ⟨h8, hh⟩) h0
      by_cases hk : kindOk (longOf b).msg.kind = false
      · rw [if_pos hk] at h; simp at h
      · rw [if_neg hk] at h ⊢
        by_cases hg : (longOf b).good = false
        · rw [if_pos hg] at h; simp at h
        · rw [if_neg hg]
          have hg' : (longOf b).good = true := by simpa using hg
          rw [msgPut, if_pos hg']
          obtain ⟨x0, x1, x2, x3, x4, x5, x6, x7, x8, y0, y1, y2, y3, z0, z1, z2, z3, t0, t1, t2, t3, rfl⟩ := list21 b h21
          simp only [List.getD_cons_zero] at hone
          subst hone
          simp only [longOf, shortOf, List.getD_cons_succ, List.getD_cons_zero, List.drop_succ_cons, List.drop_zero, List.take_succ_cons, List.take_zero]
          simp [Packet.bytes, be2_number, be4_number, byteOf_byte]

theorem get_bad (b : List UInt8) (h : (msgGet b).2 ≠ 0) : (msgGet b).1 = Packet.zero := by
  unfold msgGet at h ⊢
  split at h
  · rename_i h0; rw [if_pos h0]
  · rename_i h0; rw [if_neg h0]
    split at h
    · exact absurd rfl h
    · rename_i h8; rw [if_neg h8]
      split at h
      · rename_i hk; rw [if_pos hk]
      · rename_i hk; rw [if_neg hk]
        split at h
        · rename_i hg; rw [if_pos hg]
        · exact absurd rfl h

end Go.Proofs.YtclgnginmgleaaaDoor.M
