/-
  Walks of the laws of frames.
-/
import Derived.Test.YtclgnginmgleaaaPut
import Derived.Test.YtclgnginmgleaaaRow0
import Derived.Deep.RegionHeldLaw
namespace Go.Proofs.Ytclgnginmgleaaa
open Go Go.RowKit Go.Sort

theorem next_a : Fr.next ([0] ++ Fr.frameOf [97]) = (some [97], []) := by decide +kernel
theorem frame_a : (bvals (Fr.frameOf [97]))[0]? = some (.int .u8 165) := rfl

/-- A stream that is laid is empty. -/
theorem Strm.new (w : World) : Strm (w.alloc (.cells #[.slice none 0 0] 40)) w.heap.size none [] :=
  ⟨.slice none 0 0, 40, heap_alloc_new _ _, Sl.nil _ _, by intro h; cases h⟩

set_option maxRecDepth 100000 in
set_option maxHeartbeats 800000 in
theorem answers03 (w : World) : Calls Try.prog 15 #[] w fun e w' => e = .returned (.bool true) ∧ Below w.heap.size w w' := by
  have kc := conv_bytes
  have hb0 : Below w.heap.size w (w.alloc (.cells #[.int .u8 97] 5 (1, 2))) := (Below.refl _ _).alloc (Nat.le_refl _) _
  have r0 := lit_rd (w := w) (e := 5) (fr := (1, 2)) [97] 1 rfl (by omega) (by omega)
  go_enter Try.func15, Try.ntmps15
  go_wp2_with (first | (go_at_call 16; refine (put_any _ _ [97] _ r0).mono ?_; rintro e w1 ⟨hb1, ⟨hn, _⟩ | ⟨_, vb, blkb, rfl, slb, frb⟩⟩; exact absurd ⟨Nat.le_refl _, by decide⟩ hn; obtain ⟨Ab, Cb, rfl⟩ := slb.rd.len; have hb1' := hb0.trans (hb1.mono hb0.size); clear r0 hb0 kc) | fail)
  generalize hlb : ([97] : List UInt8).length + 6 = n7 at slb
  obtain rfl : n7 = 7 := by rw [← hlb]; rfl
  clear hlb
  have frb' : ∀ b, blkb = some b → b < w1.heap.size := fun b hb => by subst hb; exact slb.lt Nat.zero_lt_one
  have hba : Below w1.heap.size w1 ((w1.alloc (.cells #[.slice none 0 0] 40)).alloc (.cells #[.int .u8 0] 5)) := ((Below.refl _ _).alloc (Nat.le_refl _) _).alloc (by simp) _
  have st0 : Strm ((w1.alloc (.cells #[.slice none 0 0] 40)).alloc (.cells #[.int .u8 0] 5)) w1.heap.size none [] := (Strm.new w1).below ((Below.refl _ _).alloc (Nat.le_refl _) _)
  have rz : Rd ((w1.alloc (.cells #[.slice none 0 0] 40)).alloc (.cells #[.int .u8 0] 5)) 1 (.slice (some ⟨w1.heap.size + 1, 0, none⟩) 1 1) 1 (bvals [0]) := by
    have := lit_rd (w := w1.alloc (.cells #[.slice none 0 0] 40)) (e := 5) (fr := (0, 0)) [0] 1 rfl (by omega) (by omega)
    rwa [show (w1.alloc (.cells #[.slice none 0 0] 40)).heap.size = w1.heap.size + 1 by simp] at this
  refine (feed_any _ _ _ _ _ _ _ st0 rz (by decide)).mono ?_
  rintro e w3 ⟨rfl, blk3, st3, fr3, kp3⟩
  have k3 : Kept (fun i => i = w1.heap.size) w1 w3 := (Kept.of_below hba).trans (kp3.mono (T := fun i => i = w1.heap.size) (fun i _ h => h.elim id fun h => by cases h)) fun i _ h => h
  have slb3 := slb.kept k3 Nat.zero_lt_one (fun b hb h => by have := frb' b hb; omega)
  have h3 : ∀ b, blk3 = some b → w1.heap.size ≤ b := fun b hb => by
    rcases fr3 with rfl | ⟨b', hb', hle⟩
    · cases hb
    · subst hb'; obtain rfl := Option.some.inj hb; have := hba.size; omega
  clear rz st0 kp3 fr3
  go_wp2_with fail
  refine (feed_any _ _ _ _ _ _ _ st3 slb3.rd (by decide)).mono ?_
  rintro e w4 ⟨rfl, blk4, st4, fr4, kp4⟩
  have k4 : Kept (fun i => w1.heap.size ≤ i) w1 w4 := (k3.mono (T := fun i => w1.heap.size ≤ i) (fun i _ h => by omega)).trans kp4 (fun i _ h => by
    rcases h with rfl | h
    · exact Nat.le_refl _
    · exact h3 i h)
  have slb4 := slb.kept k4 Nat.zero_lt_one (fun b hb h => by have := frb' b hb; omega)
  clear kp4 fr4 slb3 st3
  go_wp2_with fail
  refine (next_any _ _ _ _ st4 (by decide)).mono ?_
  rintro e w5 ⟨⟨blk5, st5, _⟩, kp5, h⟩
  have k5 : Kept (fun i => w1.heap.size ≤ i) w1 w5 := k4.trans (kp5.mono (T := fun i => w1.heap.size ≤ i) (fun i _ h => by omega)) fun i _ h => h
  have slb5 := slb.kept k5 Nat.zero_lt_one (fun b hb h => by have := frb' b hb; omega)
  have hn := next_a
  rw [show ([] ++ [0] ++ Fr.frameOf [97] : List UInt8) = [0] ++ Fr.frameOf [97] from rfl] at h st5
  rw [hn] at h st5
  rcases h with ⟨hc, _⟩ | ⟨p, vp, pb, hp, rfl, slp, frp⟩
  · cases hc
  · obtain rfl : ([97] : List UInt8) = p := Option.some.inj hp
    have cvp := conv_str slp.rd
    obtain ⟨Ap, Cp, rfl⟩ := slp.rd.len
    have cb0 : ∃ bb off, Ab = some ⟨bb, off, none⟩ ∧ w5.cell? ⟨bb, off, none⟩ = some (.int .u8 165) := by
      obtain ⟨_, ⟨_, _, h0, _⟩ | ⟨bb, off, cap, hb', hv, _, _, _, hc, _⟩⟩ := slb5
      · omega
      · simp only [Value.slice.injEq, true_and] at hv
        obtain ⟨rfl, rfl⟩ := hv
        exact ⟨bb, off, rfl, hc 0 _ frame_a⟩
    obtain ⟨bb, off, rfl, cb⟩ := cb0
    have hfin : Below w.heap.size w w5 := hb1'.trans (k5.belowB hb1'.size fun i hi h => by have := hb1'.size; omega)
    have hst : (str [97]) = ⟨#[97]⟩ := rfl
    have cvq : (convert 22 9 (.slice Ap 1 Cp)).run Try.prog w5 = .ok (.string ⟨#[97]⟩) w5 := cvp
    clear cvp hst hp
    clear slb slb4 slb5 st4 slp hn k3 k4 k5 kp5 frp frb h3 frb'
    go_wp2_with (first | (go_at_call 21; refine (held_any _ _ _ _ st5).mono ?_; rintro e w6 ⟨rfl, h6⟩; rw [h6]; clear h6 w6) | fail)
    go_ret
    exact ⟨rfl, hfin⟩
set_option maxRecDepth 100000 in
set_option maxHeartbeats 200000 in
theorem framePuts_walk (b : List UInt8) (a1 : Option Addr) (c1 : Nat) (w : World) (h1 : Rd w 1 (.slice a1 b.length c1) b.length (bvals b)) :
    Calls Try.prog 6 #[.slice a1 b.length c1] w fun e w' => e = .returned (.bool true) ∧ Below w.heap.size w w' := by
  by_cases hbig : 1000 < b.length
  · have hb' : (1000 : Int) < (b.length : Int) := by omega
    go_enter Try.func6, Try.ntmps6
    go_wp2_with fail
    refine (answers03 _).mono ?_
    rintro e w1 ⟨rfl, hb1⟩
    go_wp2
    go_ret
    exact ⟨rfl, hb1⟩
  have hb' : ¬ (1000 : Int) < (b.length : Int) := by omega
  have hbel0 : Below w.heap.size w (w.alloc (.cells #[] 5)) := (Below.refl _ _).alloc (Nat.le_refl _) _
  have sl0 := Sl.empty (w.alloc (.cells #[] 5)) 1 (some ⟨w.heap.size, 0, none⟩)
  have sr1 := (h1.below hbel0).srcB
  have bd1 : (3 * (0 + b.length) + 1024) * (1 + 1) ≤ 281474976710656 := by omega
  go_enter Try.func6, Try.ntmps6
  go_wp2_with (first | (at_builtin; go_must (refine wpList_append_sl rfl _ _ _ _ 5 rfl under22 info5 rfl Nat.zero_lt_one rfl rfl sl0 sr1 bd1 ?_; intro v1 w1 blk1 sl1 fr1 kp1; have bel1 := Kept.toBelow hbel0 kp1 (fun b hb => by cases hb); obtain ⟨A1, C1, rfl⟩ := sl1.rd.len; clear sl0 sr1)) | fail)
  rw [List.nil_append, Nat.zero_add] at sl1
  refine (put_any _ _ _ _ sl1.rd).mono ?_
  rintro e w2 ⟨hb2, h⟩
  have bel2 := bel1.trans (hb2.mono bel1.size)
  rcases h with ⟨hk, rfl⟩ | ⟨hk, vf, blkf, rfl, slf, frf⟩
  · clear sl1
    by_cases c1 : b.length < 1
    · have c1' : (b.length : Int) < 1 := by omega
      go_wp2_with (first | (go_at_call 15; refine (answers03 _).mono ?_; rintro e w3 ⟨rfl, hb3⟩) | fail)
      go_ret
      exact ⟨rfl, bel2.trans (hb3.mono bel2.size)⟩
    · have c1' : ¬ (b.length : Int) < 1 := by omega
      have c2' : (64 : Int) < (b.length : Int) := by omega
      go_wp2_with (first | (go_at_call 15; refine (answers03 _).mono ?_; rintro e w3 ⟨rfl, hb3⟩) | fail)
      go_ret
      exact ⟨rfl, bel2.trans (hb3.mono bel2.size)⟩
  · have c1' : ¬ (b.length : Int) < 1 := by omega
    have c2' : ¬ (64 : Int) < (b.length : Int) := by omega
    obtain ⟨Af, Cf, rfl⟩ := slf.rd.len
    have rb2 := h1.below bel2
    have hk64 := hk.2
    generalize hn : b.length = n at *
    have c3 : (n : Int) ≤ 64 := by omega
    clear sl1 hk
    go_simp
    iterate 60 (try first | go_values | go_skip | go_guarded | go_step | go_upon)
    go_region_held_law (fun _ => True) (trivial) (first | (go_at_call 15; refine (answers03 _).mono ?_; rintro e w3 ⟨rfl, hb3⟩; have cv3 := conv_str ((slf.rd.below (below_drew _)).below hb3); have bel3 := (below_drew w2).trans hb3) | (go_at_call 17; subst hn; refine (refFrame_any _ _ _ _ ((rb2.below (below_drew _)).below hb3) hk64).mono ?_; rintro e w4 ⟨hb4, vr, blkr, rfl, slr, _⟩; obtain ⟨Ar, Cr, rfl⟩ := slr.rd.len; have cv4 := conv_str (((slf.rd.below (below_drew _)).below hb3).below hb4); have cv5 := conv_str slr.rd))
    all_goals
      go_wp2
      go_ret
      exact ⟨rfl, (bel2.trans (bel3.mono bel2.size)).trans (hb4.mono (Nat.le_trans bel2.size bel3.size))⟩
end Go.Proofs.Ytclgnginmgleaaa
