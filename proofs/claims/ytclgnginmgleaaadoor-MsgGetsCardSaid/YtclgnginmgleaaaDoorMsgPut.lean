/-
  Walks of package msg: a packet's bytes.
-/
import Derived.Test.YtclgnginmgleaaaDoorMsgBits
namespace Go.Proofs.YtclgnginmgleaaaDoor
open Go Go.RowKit Go.Sort

theorem idx3 (x0 x1 x2 : Value) (w : World) : (Instr.index 39 (.agg #[x0, x1, x2]) (.int .i64 0)).run Tryd.prog w = .ok x0 w ∧ (Instr.index 39 (.agg #[x0, x1, x2]) (.int .i64 1)).run Tryd.prog w = .ok x1 w ∧ (Instr.index 39 (.agg #[x0, x1, x2]) (.int .i64 2)).run Tryd.prog w = .ok x2 w := by
  refine ⟨?_, ?_, ?_⟩ <;> kernel_rfl

/-- The cells of a box that still stands. -/
theorem box_cell {w W : World} {cs : Array Value} {T : TypeId} (h : Below (w.alloc (.cells cs T)).heap.size (w.alloc (.cells cs T)) W) (j : Nat) (v : Value) (hv : cs[j]? = some v) : W.cell? ⟨w.heap.size, j, none⟩ = some v := by
  rw [h.cell (p := ⟨w.heap.size, j, none⟩) (by simp), cell_of_row _ _ _ _ _ _ (heap_alloc_new w (.cells cs T))]; exact hv

/-- Out behind k numbers of s bytes each. -/
def PutRel (s : Nat) (h : List UInt8) (be : List UInt8) (w1 : World) (bv iv : Value) (wr : World) : Prop :=
  ∃ (k : Nat) (A : Option Addr) (C : Nat) (blk : Option Nat), k ≤ 3 ∧ iv = .int .i64 k ∧ bv = .slice A (h.length + s * k) C ∧ Sl wr 1 bv blk (h.length + s * k) (bvals (h ++ be.take (s * k))) ∧ (∀ b, blk = some b → w1.heap.size ≤ b) ∧ Below w1.heap.size w1 wr

theorem put_step {s : Nat} {h be x : List UInt8} {w1 wr : World} {blk : Option Nat} (k : Nat) (hk : k ≤ 2) (hx : be.take (s * (k + 1)) = be.take (s * k) ++ x) (hbel : Below w1.heap.size w1 wr) (hfr : ∀ b, blk = some b → w1.heap.size ≤ b) :
    ∀ (v' : Value) (blk' : Option Nat) (w2 : World), Sl w2 1 v' blk' (h.length + s * k + s) (bvals (h ++ be.take (s * k) ++ x)) → (blk' = blk ∨ ∃ b, blk' = some b ∧ wr.heap.size ≤ b) → Kept (fun k => blk = some k) wr w2 → (∃ A1 N1 C1, v' = .slice A1 N1 C1) ∧ PutRel s h be w1 v' (.int .i64 ((k + 1 : Nat) : Int)) w2 := by
  intro v' blk' w2 hs hb hkp
  have e : h.length + s * k + s = h.length + s * (k + 1) := by rw [Nat.mul_succ]; omega
  rw [e, List.append_assoc, ← hx] at hs
  obtain ⟨A1, C1, rfl⟩ := hs.rd.len
  exact ⟨⟨_, _, _, rfl⟩, k + 1, A1, C1, blk', by omega, rfl, rfl, hs, fresh_next hfr hbel.size hb, Kept.toBelow hbel hkp hfr⟩

theorem inside_range {most n : Int} (h : M.inside most n = true) : 0 ≤ n ∧ n ≤ most := by simpa [M.inside] using h

set_option maxRecDepth 100000 in
set_option maxHeartbeats 1000000 in
theorem msgPut_any (p : M.Packet) (w : World) : Calls Tryd.prog 7 #[.agg (packetV p)] w fun e w' => Below w.heap.size w w' ∧ ((p.good = false ∧ e = .returned (.tuple #[.slice none 0 0, .bool false])) ∨
    (p.good = true ∧ ∃ v blk, e = .returned (.tuple #[v, .bool true]) ∧ Sl w' 1 v blk p.bytes.length (bvals p.bytes) ∧ ∀ b, blk = some b → w.heap.size ≤ b)) := by
  have hgood := good_any p
  obtain ⟨s, ep, sq, ak, has, ⟨k, a, b, c⟩⟩ := p
  unfold packetV at hgood ⊢
  simp only at hgood ⊢
  have hge := good_eq s ep sq ak has k a b c
  generalize hg : (⟨s, ep, sq, ak, has, ⟨k, a, b, c⟩⟩ : M.Packet).good = g at *
  obtain ⟨cs, hcs⟩ : ∃ cs : Array Value, cs = #[.int .i64 s, .int .i64 ep, .int .i64 sq, .int .i64 ak, .bool has, .int .i64 k, .int .i64 a, .int .i64 b, .int .i64 c] := ⟨_, rfl⟩
  have HG := Lib.hid hgood
  have hb0 : Below w.heap.size w (w.alloc (.cells cs 25)) := (Below.refl _ _).alloc (Nat.le_refl _) _
  have HB0 := Lib.hid hb0
  have HGE := Lib.hid hge
  have HCS := Lib.hid hcs
  cases g
  · clear hg hge hgood hb0
    rw [hcs] at HB0
    clear hcs
    go_enter Tryd.func7, Tryd.ntmps7
    go_wp2_with (first | (go_at_call 10; (with_reducible refine (HG.out _).mono ?_); rintro e w1 ⟨rfl, hb1⟩) | fail)
    go_ret2
    exact ⟨HB0.out.trans (hb1.mono HB0.out.size), .inl ⟨trivial, rfl⟩⟩
  · have hr := hge
    simp only [Bool.true_eq, Bool.and_eq_true] at hr
    obtain ⟨r0, ⟨⟨r1, r2⟩, r3⟩, r4⟩ := hr
    have r0' := inside_range r0
    have r1' := inside_range r1
    have r2' := inside_range r2
    have r3' := inside_range r3
    have R4 := Lib.hid r4
    obtain ⟨s0, s1⟩ := r0'
    obtain ⟨e0, e1⟩ := r1'
    obtain ⟨q0, q1⟩ := r2'
    obtain ⟨k0, k1⟩ := r3'
    clear hg hge hgood hb0 r0 r1 r2 r3 r4
    rw [hcs] at HB0
    clear hcs
    go_enter Tryd.func7, Tryd.ntmps7
    go_wp2_with (first | (go_at_call 10; (with_reducible refine (HG.out _).mono ?_); rintro e w1 ⟨rfl, hb1⟩; have c0 := box_cell hb1 0 _ rfl; have c1 := box_cell hb1 1 _ rfl; have c2 := box_cell hb1 2 _ rfl; have c3 := box_cell hb1 3 _ rfl; have c4 := box_cell hb1 4 _ rfl; have hz : w.heap.size < w1.heap.size := (by have := hb1.size; simp at this; omega)) | fail)
    obtain ⟨x0, hx0⟩ : ∃ x0 : UInt8, x0 = M.byteOf s := ⟨_, rfl⟩
    have hxs : (x0.toNat : Int) = s := by rw [hx0, byteOf_toNat]; omega
    have REL0 := Lib.hid (show PutRel 2 [1, x0] (M.be2 ep ++ M.be2 sq ++ M.be2 ak) w1 (.slice (some ⟨w1.heap.size, 0, none⟩) 2 2) (.int .i64 0) (w1.alloc (.cells #[.int .u8 1, .int .u8 s] 5)) from by
      refine ⟨0, some ⟨w1.heap.size, 0, none⟩, 2, some w1.heap.size, by omega, rfl, rfl, ?_, fun b hb => by obtain rfl := Option.some.inj hb; exact Nat.le_refl _, (Below.refl _ _).alloc (Nat.le_refl _) _⟩
      have := lit_sl (w := w1) (e := 5) [.int .u8 1, .int .u8 s] 2 rfl (by omega) (by omega)
      rw [show bvals ([1, x0] ++ (M.be2 ep ++ M.be2 sq ++ M.be2 ak).take (2 * 0)) = [.int .u8 1, .int .u8 s] by simp [bvals, hxs]]
      exact this)
    have HX0 := Lib.hid hx0
    have HB1 := Lib.hid hb1
    clear hxs hx0 hb1 c0 c1 c2 c3 c4
    go_loopw [4, 23] (fun bv iv wr => PutRel 2 [1, x0] (M.be2 ep ++ M.be2 sq ++ M.be2 ak) w1 bv iv wr) (fun _ iv _ => 3 - (intOf iv).toNat)
    case atStart => exact REL0.out
    case round =>
      obtain ⟨kk, A, C, blk, hk, rfl, rfl, hsl, hfr, hbel⟩ := hrel
      rcases (show kk = 0 ∨ kk = 1 ∨ kk = 2 ∨ kk = 3 by omega) with rfl | rfl | rfl | rfl
      · have CB := Lib.hid (bits2_any _ _ _ _ ep wr hsl (by simp) e0 (by omega))
        have ST := Lib.hid (put_step (s := 2) (h := [1, x0]) (be := M.be2 ep ++ M.be2 sq ++ M.be2 ak) (x := M.be2 ep) 0 (by omega) rfl hbel hfr)
        have i3 := fun W => (idx3 (.int .i64 ep) (.int .i64 sq) (.int .i64 ak) W).1
        clear hsl hfr hbel hk
        go_wp2_with (first | (go_at_call 16; (refine CB.out.mono ?_); rintro e w2 ⟨v2, blk2, rfl, sl2, fr2, kp2⟩; obtain ⟨⟨A2, N2, C2, rfl⟩, hrel2⟩ := ST.out v2 blk2 w2 sl2 fr2 kp2; have REL2 := Lib.hid hrel2; clear sl2 fr2 kp2 hrel2 i3) | fail)
        exact ⟨REL2.out, by simp [intOf]⟩
      · have CB := Lib.hid (bits2_any _ _ _ _ sq wr hsl (by simp) q0 (by omega))
        have ST := Lib.hid (put_step (s := 2) (h := [1, x0]) (be := M.be2 ep ++ M.be2 sq ++ M.be2 ak) (x := M.be2 sq) 1 (by omega) rfl hbel hfr)
        have i3 := fun W => (idx3 (.int .i64 ep) (.int .i64 sq) (.int .i64 ak) W).2.1
        clear hsl hfr hbel hk
        go_wp2_with (first | (go_at_call 16; (refine CB.out.mono ?_); rintro e w2 ⟨v2, blk2, rfl, sl2, fr2, kp2⟩; obtain ⟨⟨A2, N2, C2, rfl⟩, hrel2⟩ := ST.out v2 blk2 w2 sl2 fr2 kp2; have REL2 := Lib.hid hrel2; clear sl2 fr2 kp2 hrel2 i3) | fail)
        exact ⟨REL2.out, by simp [intOf]⟩
      · have CB := Lib.hid (bits2_any _ _ _ _ ak wr hsl (by simp) k0 (by omega))
        have ST := Lib.hid (put_step (s := 2) (h := [1, x0]) (be := M.be2 ep ++ M.be2 sq ++ M.be2 ak) (x := M.be2 ak) 2 (by omega) rfl hbel hfr)
        have i3 := fun W => (idx3 (.int .i64 ep) (.int .i64 sq) (.int .i64 ak) W).2.2
        clear hsl hfr hbel hk
        go_wp2_with (first | (go_at_call 16; (refine CB.out.mono ?_); rintro e w2 ⟨v2, blk2, rfl, sl2, fr2, kp2⟩; obtain ⟨⟨A2, N2, C2, rfl⟩, hrel2⟩ := ST.out v2 blk2 w2 sl2 fr2 kp2; have REL2 := Lib.hid hrel2; clear sl2 fr2 kp2 hrel2 i3) | fail)
        exact ⟨REL2.out, by simp [intOf]⟩
      · have hB := HB1.out.trans (hbel.mono HB1.out.size)
        have c4 := box_cell hB 4 _ rfl
        have c5 := box_cell hB 5 _ rfl
        have c6 := box_cell hB 6 _ rfl
        have c7 := box_cell hB 7 _ rfl
        have c8 := box_cell hB 8 _ rfl
        have hzr : w.heap.size < wr.heap.size := Nat.lt_of_lt_of_le hz hbel.size
        have hsl8 : Sl wr 1 (.slice A 8 C) blk 8 (bvals ([1, x0] ++ (M.be2 ep ++ M.be2 sq ++ M.be2 ak))) := hsl
        have hwB := HB0.out.trans (hB.mono HB0.out.size)
        have hfw : ∀ b, blk = some b → w.heap.size ≤ b := fun b hb => by have := hfr b hb; omega
        have HSL := Lib.hid hsl8
        have HWB := Lib.hid hwB
        have HFW := Lib.hid hfw
        have HFR := Lib.hid hfr
        have HBEL := Lib.hid hbel
        have H1B := Lib.hid hB
        clear hsl hsl8 hwB hfw hfr hbel hk hB
        cases has
        · clear c5 c6 c7 c8
          go_wp2_with fail
          go_ret2
          refine ⟨HWB.out, .inr ⟨trivial, _, blk, rfl, ?_, HFW.out⟩⟩
          have := HSL.out
          rw [HX0.out] at this
          exact this
        · have r5 : M.kindOk k = true ∧ ((M.inside 2147483647 a = true ∧ M.inside 2147483647 b = true) ∧ M.inside 2147483647 c = true) := by
            have := R4.out; simpa [and_assoc] using this
          obtain ⟨g0, g1⟩ : 1 ≤ k ∧ k ≤ 16 := by have := r5.1; simpa [M.kindOk] using this
          obtain ⟨a0, a1⟩ := inside_range r5.2.1.1
          obtain ⟨b0, b1⟩ := inside_range r5.2.1.2
          obtain ⟨c0, c1⟩ := inside_range r5.2.2
          clear r5
          obtain ⟨x5, hx5⟩ : ∃ x5 : UInt8, x5 = M.byteOf k := ⟨_, rfl⟩
          have hxk : (x5.toNat : Int) = k := by rw [hx5, byteOf_toNat]; omega
          obtain ⟨hh, hhe⟩ : ∃ hh : List UInt8, hh = [1, x0] ++ (M.be2 ep ++ M.be2 sq ++ M.be2 ak) ++ [x5] := ⟨_, rfl⟩
          have hhl : hh.length = 9 := by rw [hhe]; rfl
          have hbA : Below wr.heap.size wr (wr.alloc (.cells #[.int .u8 k] 5)) := (Below.refl _ _).alloc (Nat.le_refl _) _
          have slA := HSL.out.below hbA Nat.zero_lt_one
          have srA := (lit_sl (w := wr) (e := 5) [.int .u8 k] 1 rfl (by omega) (by omega)).src (P := Tryd.prog) (by intro u hu; simp at hu; subst hu; rfl) (tx := 26) (e' := 5) under22
          have POST : ∀ (v1 : Value) (w2 : World) (blk1 : Option Nat), Sl w2 1 v1 blk1 (8 + 1) (bvals ([1, x0] ++ (M.be2 ep ++ M.be2 sq ++ M.be2 ak)) ++ [.int .u8 k]) → (blk1 = blk ∨ ∃ b, blk1 = some b ∧ (wr.alloc (.cells #[.int .u8 k] 5)).heap.size ≤ b) → Kept (fun k => blk = some k) (wr.alloc (.cells #[.int .u8 k] 5)) w2 →
              (∃ A1 C1, v1 = .slice A1 9 C1) ∧ PutRel 4 hh (M.be4 a ++ M.be4 b ++ M.be4 c) w1 v1 (.int .i64 0) w2 ∧ w.heap.size < w2.heap.size ∧ Below (w.alloc (.cells #[.int .i64 s, .int .i64 ep, .int .i64 sq, .int .i64 ak, .bool true, .int .i64 k, .int .i64 a, .int .i64 b, .int .i64 c] 25)).heap.size (w.alloc (.cells #[.int .i64 s, .int .i64 ep, .int .i64 sq, .int .i64 ak, .bool true, .int .i64 k, .int .i64 a, .int .i64 b, .int .i64 c] 25)) w2 := by
            intro v1 w2 blk1 sl1 fr1 kp1
            have hB := HBEL.out.trans (hbA.mono HBEL.out.size)
            have hB2 := Kept.toBelow hB kp1 HFR.out
            have e : bvals ([1, x0] ++ (M.be2 ep ++ M.be2 sq ++ M.be2 ak)) ++ [.int .u8 k] = bvals (hh ++ (M.be4 a ++ M.be4 b ++ M.be4 c).take (4 * 0)) := by
              rw [hhe]; simp [bvals, hxk]
            rw [e] at sl1
            obtain ⟨A1, C1, rfl⟩ := sl1.rd.len
            refine ⟨⟨_, _, rfl⟩, ⟨0, A1, C1, blk1, by omega, rfl, by rw [hhl], by rw [hhl]; exact sl1, fresh_next HFR.out hB.size fr1, hB2⟩, Nat.lt_of_lt_of_le hz hB2.size, HB1.out.trans (hB2.mono HB1.out.size)⟩
          have P := Lib.hid POST
          have HX5 := Lib.hid hx5
          have HHE := Lib.hid hhe
          have HHL := Lib.hid hhl
          clear POST hx5 hxk hhe hhl hbA
          have BD := Lib.hid (show (3 * (8 + 1) + 1024) * (1 + 1) ≤ 281474976710656 by omega)
          go_wp2_with (first | (at_builtin; (refine wpList_append_sl rfl _ _ 26 26 5 rfl under22 info5 rfl Nat.zero_lt_one rfl rfl slA srA BD.out ?_); intro v1 w2 blk1 sl1 fr1 kp1; obtain ⟨⟨A1, C1, rfl⟩, hrel1, hz2, hB2⟩ := P.out v1 w2 blk1 sl1 fr1 kp1; have REL1 := Lib.hid hrel1; clear slA srA sl1 fr1 kp1 hrel1 c4 c5 c6 c7 c8; have c6 := box_cell hB2 6 _ rfl; have c7 := box_cell hB2 7 _ rfl; have c8 := box_cell hB2 8 _ rfl) | fail)
          clear c6 c7 c8
          go_loopw [4, 51] (fun bv iv wr => PutRel 4 hh (M.be4 a ++ M.be4 b ++ M.be4 c) w1 bv iv wr) (fun _ iv _ => 3 - (intOf iv).toNat)
          case atStart => exact REL1.out
          case round =>
            obtain ⟨kk, A, C, blk, hk, rfl, rfl, hsl, hfr, hbel⟩ := hrel
            rcases (show kk = 0 ∨ kk = 1 ∨ kk = 2 ∨ kk = 3 by omega) with rfl | rfl | rfl | rfl
            · have CB := Lib.hid (bits4_any _ _ _ _ a wr hsl (by rw [HHL.out]; omega) a0 (by omega))
              have ST := Lib.hid (put_step (s := 4) (h := hh) (be := M.be4 a ++ M.be4 b ++ M.be4 c) (x := M.be4 a) 0 (by omega) rfl hbel hfr)
              have i3 := fun W => (idx3 (.int .i64 a) (.int .i64 b) (.int .i64 c) W).1
              clear hsl hfr hbel hk
              go_wp2_with (first | (go_at_call 16; (refine CB.out.mono ?_); rintro e w2 ⟨v2, blk2, rfl, sl2, fr2, kp2⟩; obtain ⟨⟨A2, N2, C2, rfl⟩, hrel2⟩ := ST.out v2 blk2 w2 sl2 fr2 kp2; have REL2 := Lib.hid hrel2; clear sl2 fr2 kp2 hrel2 i3) | fail)
              exact ⟨REL2.out, by simp [intOf]⟩
            · have CB := Lib.hid (bits4_any _ _ _ _ b wr hsl (by rw [HHL.out]; omega) b0 (by omega))
              have ST := Lib.hid (put_step (s := 4) (h := hh) (be := M.be4 a ++ M.be4 b ++ M.be4 c) (x := M.be4 b) 1 (by omega) rfl hbel hfr)
              have i3 := fun W => (idx3 (.int .i64 a) (.int .i64 b) (.int .i64 c) W).2.1
              clear hsl hfr hbel hk
              go_wp2_with (first | (go_at_call 16; (refine CB.out.mono ?_); rintro e w2 ⟨v2, blk2, rfl, sl2, fr2, kp2⟩; obtain ⟨⟨A2, N2, C2, rfl⟩, hrel2⟩ := ST.out v2 blk2 w2 sl2 fr2 kp2; have REL2 := Lib.hid hrel2; clear sl2 fr2 kp2 hrel2 i3) | fail)
              exact ⟨REL2.out, by simp [intOf]⟩
            · have CB := Lib.hid (bits4_any _ _ _ _ c wr hsl (by rw [HHL.out]; omega) c0 (by omega))
              have ST := Lib.hid (put_step (s := 4) (h := hh) (be := M.be4 a ++ M.be4 b ++ M.be4 c) (x := M.be4 c) 2 (by omega) rfl hbel hfr)
              have i3 := fun W => (idx3 (.int .i64 a) (.int .i64 b) (.int .i64 c) W).2.2
              clear hsl hfr hbel hk
              go_wp2_with (first | (go_at_call 16; (refine CB.out.mono ?_); rintro e w2 ⟨v2, blk2, rfl, sl2, fr2, kp2⟩; obtain ⟨⟨A2, N2, C2, rfl⟩, hrel2⟩ := ST.out v2 blk2 w2 sl2 fr2 kp2; have REL2 := Lib.hid hrel2; clear sl2 fr2 kp2 hrel2 i3) | fail)
              exact ⟨REL2.out, by simp [intOf]⟩
            · have hB := HB1.out.trans (hbel.mono HB1.out.size)
              have hwB := HB0.out.trans (hB.mono HB0.out.size)
              have hfw : ∀ b, blk = some b → w.heap.size ≤ b := fun b hb => by have := hfr b hb; omega
              rw [HHL.out] at hsl
              have HSL2 := Lib.hid hsl
              have HWB2 := Lib.hid hwB
              have HFW2 := Lib.hid hfw
              rw [HHL.out]
              clear hsl hwB hfw hfr hbel hk hB
              go_wp2_with fail
              go_ret2
              refine ⟨HWB2.out, .inr ⟨trivial, _, blk, rfl, ?_, HFW2.out⟩⟩
              have := HSL2.out
              rw [HHE.out, HX0.out, HX5.out] at this
              exact this
end Go.Proofs.YtclgnginmgleaaaDoor
