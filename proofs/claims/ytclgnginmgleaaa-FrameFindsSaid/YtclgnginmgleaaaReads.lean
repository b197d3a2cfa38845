/-
  The walk of FrameReads.
-/
import Derived.Test.YtclgnginmgleaaaFrames
import Derived.Deep.QuietTactic
namespace Go.Proofs.Ytclgnginmgleaaa
open Go Go.RowKit Go.Sort

theorem frames_rest (n : Nat) : ∀ b : List UInt8, b.length ≤ n → (Fr.frames b).2.length ≤ b.length := by
  induction n with
  | zero =>
    intro b hb
    rcases hx : (Fr.next b).1 with _ | p
    · rw [Fr.next_none b hx]; exact Fr.next_length b
    · obtain ⟨s, t, rfl, _⟩ := Fr.next_stood b p hx
      simp [Fr.frameOf_length] at hb
  | succ n ih =>
    intro b hb
    rcases hx : (Fr.next b).1 with _ | p
    · rw [Fr.next_none b hx]; exact Fr.next_length b
    · obtain ⟨s, t, he, _, _, ht⟩ := Fr.next_stood b p hx
      have hl : t.length + 6 ≤ b.length := by rw [he]; simp [Fr.frameOf_length]; omega
      rw [Fr.next_some b p hx, ht]
      have := ih t (by omega)
      simp only
      omega

/-- A slice that is read, whatever turns outside its block. -/
def RdO (w : World) (v : Value) (l : List UInt8) (blk : Option Nat) : Prop := ∀ W : World, (∀ b, blk = some b → W.heap[b]? = w.heap[b]?) → Rd W 1 v l.length (bvals l)
theorem RdO.rd {w : World} {v : Value} {l : List UInt8} {blk : Option Nat} (h : RdO w v l blk) : Rd w 1 v l.length (bvals l) := h w fun _ _ => rfl
theorem RdO.kept {w w' : World} {v : Value} {l : List UInt8} {blk : Option Nat} {S : Nat → Prop} (h : RdO w v l blk) (k : Kept S w w') (hb : ∀ b, blk = some b → b < w.heap.size ∧ ¬ S b) : RdO w' v l blk :=
  fun W hW => h W fun b e => (hW b e).trans (k.block b (hb b e).1 (hb b e).2)
theorem RdO.below {w w' : World} {v : Value} {l : List UInt8} {blk : Option Nat} (h : RdO w v l blk) (k : Below w.heap.size w w') (hb : ∀ b, blk = some b → b < w.heap.size) : RdO w' v l blk :=
  h.kept (S := fun _ => False) (Kept.of_below k) fun b e => ⟨hb b e, id⟩
theorem RdO.nil (w : World) : RdO w (.slice none 0 0) [] none := fun W _ => (Sl.nil W 1).rd

/-- Rows that came in. -/
theorem IsRows.rd {w : World} {a : Option Addr} {len cap : Nat} {A : Nat → Option Addr} {L C : Nat → Nat} {Z : Nat → List Int} (h : IsRows w a len cap A L C Z) : ∃ (ps : List (List UInt8)) (vals : List Value), ps.length = len ∧ RdRows w (.slice a len cap) ps vals := by
  rcases h with ⟨rfl, rfl, rfl⟩ | ⟨x, rfl, hl, hm, hc⟩
  · exact ⟨[], [], rfl, rfl, ⟨rfl, .inl ⟨_, _, rfl, rfl⟩⟩, fun i p h => by simp at h⟩
  · have each : ∀ r, ∃ l : List UInt8, r < cap → l.length = L r ∧ Rd w 1 (.slice (A r) (L r) (C r)) (L r) (bvals l) := by
      intro r
      by_cases hr : r < cap
      · obtain ⟨_, h1, h2, h3, h4, h5, h6⟩ := hc r hr
        cases hA : A r with
        | none =>
          have hC := h5 hA
          have hL : L r = 0 := by omega
          exact ⟨[], fun _ => ⟨by simp [hL], by simp [bvals, hL], .inl ⟨none, C r, hL, by rw [hL]⟩⟩⟩
        | some a' =>
          obtain ⟨l, h7, h8⟩ := cells_rd (x := a') h1 h2 h3 (fun i hi => (h6 a' hA).2 i (by omega)) h4
          exact ⟨l, fun _ => ⟨h7, h8⟩⟩
      · exact ⟨[], fun h => absurd h hr⟩
    obtain ⟨f, hf⟩ := Classical.axiomOfChoice each
    refine ⟨(List.range len).map f, (List.range len).map fun r => .slice (A r) (L r) (C r), by simp, by simp, ⟨by simp, ?_⟩, fun i p hp => ?_⟩
    · rcases Nat.eq_zero_or_pos len with h0 | h0
      · subst h0; exact .inl ⟨some x, cap, by simp, rfl⟩
      · obtain ⟨b, off, spot⟩ := x
        have h1 := (hc 0 (by omega)).1
        have hspot : spot = none := by simpa [Addr.add] using World.cell?_spot h1
        subst hspot
        refine .inr ⟨b, off, cap, by simp, by simpa using h0, by simpa using hl, hm, fun j u hj => ?_⟩
        have hjl : j < len := by have := (List.getElem?_eq_some_iff.1 hj).1; simpa using this
        have h2 := (hc j (by omega)).1
        rw [Addr.add_lit] at h2
        rw [h2]
        simpa [hjl] using hj
    · have hil : i < len := by have := (List.getElem?_eq_some_iff.1 hp).1; simpa using this
      have hp' : f i = p := by simpa [hil] using hp
      obtain ⟨h1, h2⟩ := hf i (by omega)
      exact ⟨.slice (A i) (L i) (C i), by simp [hil], by rw [← hp', h1]; exact h2⟩

/-- A row's cell. -/
theorem RdRows.at_ {w : World} {a : Option Addr} {c n : Nat} {ps : List (List UInt8)} {vals : List Value} (h : RdRows w (.slice a n c) ps vals) (k : Nat) (hk : k < ps.length) :
    ∃ b off A C, a = some ⟨b, off, none⟩ ∧ n = ps.length ∧ w.cell? ⟨b, off + k, none⟩ = some (.slice A (ps.getD k []).length C) ∧ Rd w 1 (.slice A (ps.getD k []).length C) (ps.getD k []).length (bvals (ps.getD k [])) ∧ b < w.heap.size := by
  obtain ⟨hl, ⟨hlen, ⟨_, _, h0, _⟩ | ⟨b, off, cap, hv, _, _, _, hc⟩⟩, hr⟩ := h
  · omega
  · simp only [Value.slice.injEq] at hv
    obtain ⟨rfl, rfl, rfl⟩ := hv
    have hp : ps[k]? = some (ps.getD k []) := by rw [List.getD_eq_getElem?_getD, List.getElem?_eq_getElem hk]; rfl
    obtain ⟨u, hu, hrd⟩ := hr k _ hp
    obtain ⟨A, C, rfl⟩ := hrd.len
    have := hc k _ hu
    exact ⟨b, off, A, C, rfl, rfl, this, hrd, cell_lt this⟩

def ReadsRel (ps : List (List UInt8)) (w : World) (g : Nat) (wv iv : Value) (wr : World) : Prop :=
  ∃ (k : Nat) (L : List UInt8) (blk wb : Option Nat) (A : Option Addr) (C : Nat), k ≤ ps.length ∧ iv = .int .i64 k ∧ wv = .slice A L.length C ∧ L.length ≤ 500 * k ∧ (1 ≤ k → ps.length ≤ 40) ∧ Strm wr g blk L ∧ RdO wr wv L wb ∧
    (∀ b, wb = some b → b < wr.heap.size ∧ b ≠ g ∧ blk ≠ some b) ∧ (∀ b, blk = some b → w.heap.size ≤ b) ∧ Below w.heap.size w wr ∧ g < wr.heap.size

def InRel (want : List (List UInt8)) (rest : List UInt8) (n : Nat) (g : Nat) (blk2 : Option Nat) (w5 : World) (iv : Value) (wr : World) : Prop :=
  ∃ (j : Nat) (M : List UInt8) (blkM : Option Nat), j ≤ want.length ∧ iv = .int .i64 j ∧ Strm wr g blkM M ∧ Fr.frames M = (want.drop j, rest) ∧ M.length ≤ n ∧ (blkM = blk2 ∨ blkM = none) ∧ Kept (fun i => i = g) w5 wr

theorem InRel.drewN {want : List (List UInt8)} {rest : List UInt8} {n g : Nat} {blk2 : Option Nat} {w5 : World} {iv : Value} {wr : World} (h : InRel want rest n g blk2 w5 iv wr) (m : Nat) : InRel want rest n g blk2 w5 iv (wr.drewN m) := by
  obtain ⟨j, M, blkM, hj, he, hst, hf, hl, hb, hk⟩ := h
  exact ⟨j, M, blkM, hj, he, hst.below (below_drewN' (Below.refl _ _) m), hf, hl, hb, hk.drewN m⟩

set_option maxRecDepth 100000 in
set_option maxHeartbeats 1000000 in
theorem frameReads_walk (ps : List (List UInt8)) (vals : List Value) (a1 : Option Addr) (c1 : Nat) (w : World) (h1 : RdRows w (.slice a1 ps.length c1) ps vals) (hm : ps.length ≤ 9223372036854775807) :
    Calls Try.prog 7 #[.slice a1 ps.length c1] w fun e w' => e = .returned (.bool true) ∧ Below w.heap.size w w' := by
  have hba : Below w.heap.size w (w.alloc (.cells #[.slice none 0 0] 40)) := (Below.refl _ _).alloc (Nat.le_refl _) _
  have REL0 := Lib.hid (show ReadsRel ps w w.heap.size (.slice none 0 0) (.int .i64 0) (w.alloc (.cells #[.slice none 0 0] 40)) from
    ⟨0, [], none, none, none, 0, Nat.zero_le _, rfl, rfl, Nat.le_refl _, (fun h => by omega), Strm.new w, RdO.nil _, (fun b hb => by cases hb), (fun b hb => by cases hb), hba, by simp⟩)
  have HM := Lib.hid hm
  clear hba hm
  go_enter Try.func7, Try.ntmps7
  go_wp2_with fail
  go_loopw [4, 5] (fun wv iv wr => ReadsRel ps w w.heap.size wv iv wr) (fun _ iv _ => ps.length - (intOf iv).toNat)
  case atStart => exact REL0.out
  case round =>
    obtain ⟨k, L, blk, wb, A, C, hk, rfl, rfl, hL, h40, hst, hrd, hwb, hblk, hbel, hgl⟩ := hrel
    by_cases hlt : k < ps.length
    · obtain ⟨pb, po, Ak, Ck, rfl, _, hc0, hr0, hpl⟩ := h1.at_ k hlt
      generalize ps.getD k [] = p at hc0 hr0
      have i1 : (k : Int) < (ps.length : Int) := by omega
      have i2 : (0 : Int) ≤ (k : Int) := by omega
      have cr : wr.cell? ⟨pb, po + k, none⟩ = some (.slice Ak p.length Ck) := by rw [hbel.cell (p := ⟨pb, po + k, none⟩) hpl]; exact hc0
      have hpr : pb < wr.heap.size := Nat.lt_of_lt_of_le hpl hbel.size
      by_cases h500 : 500 < p.length
      · have i3 : (500 : Int) < (p.length : Int) := by omega
        clear hrd hst hwb hblk hL h40 hr0 hc0
        go_wp2_with (first | (go_at_call 15; refine (answers03 _).mono ?_; rintro e w3 ⟨rfl, hb3⟩) | fail)
        go_ret
        exact ⟨rfl, hbel.trans (hb3.mono hbel.size)⟩
      have i3 : ¬ (500 : Int) < (p.length : Int) := by omega
      by_cases h41 : 40 < ps.length
      · have i4 : (40 : Int) < (ps.length : Int) := by omega
        clear hrd hst hwb hblk hL h40 hr0 hc0
        go_wp2_with (first | (go_at_call 15; refine (answers03 _).mono ?_; rintro e w3 ⟨rfl, hb3⟩) | fail)
        go_ret
        exact ⟨rfl, hbel.trans (hb3.mono hbel.size)⟩
      have i4 : ¬ (40 : Int) < (ps.length : Int) := by omega
      have hpr' : pb ≠ w.heap.size ∧ pb < w.heap.size := ⟨by omega, hpl⟩
      -- the part is fed
      have hbA : Below wr.heap.size wr (wr.alloc (.cells #[] 5)) := (Below.refl _ _).alloc (Nat.le_refl _) _
      have slA := Sl.empty (wr.alloc (.cells #[] 5)) 1 (some ⟨wr.heap.size, 0, none⟩)
      have srA := ((hr0.below hbel).below hbA).srcB
      have BD0 := Lib.hid (show (3 * (0 + p.length) + 1024) * (1 + 1) ≤ 281474976710656 by omega)
      have hk40 := h40
      have hL2 : L.length ≤ 20000 := by
        have := hL; have : k ≤ 40 := by omega
        omega
      have POST0 : ∀ (v1 : Value) (w1 : World) (blk1 : Option Nat), Sl w1 1 v1 blk1 (0 + p.length) ([] ++ bvals p) → (blk1 = none ∨ ∃ b, blk1 = some b ∧ (wr.alloc (.cells #[] 5)).heap.size ≤ b) → Kept (fun k => (none : Option Nat) = some k) (wr.alloc (.cells #[] 5)) w1 →
          (∃ Av Cv, v1 = .slice Av p.length Cv) ∧ Below wr.heap.size wr w1 ∧ Calls Try.prog 18 #[.pointer (some ⟨w.heap.size, 0, none⟩), v1] w1 fun e w2 => e = .returned (.tuple #[]) ∧ ∃ blk2, Strm w2 w.heap.size blk2 (L ++ p) ∧ (∀ b, blk2 = some b → w.heap.size ≤ b) ∧ RdO w2 (.slice A L.length C) L wb ∧ (∀ b, wb = some b → b < w2.heap.size ∧ b ≠ w.heap.size ∧ blk2 ≠ some b) ∧ Below w.heap.size w w2 ∧ w.heap.size < w2.heap.size := by
        intro v1 w1 blk1 sl1 fr1 kp1
        rw [List.nil_append, Nat.zero_add] at sl1
        have hb1 := Kept.toBelow hbA kp1 (fun b hb => by cases hb)
        refine ⟨sl1.rd.len, hb1, (feed_any _ _ _ _ _ _ _ (hst.below hb1) sl1.rd (by omega)).mono ?_⟩
        rintro e w2 ⟨rfl, blk2, st2, fr2, kp2⟩
        have hf2 : ∀ b, blk2 = some b → w.heap.size ≤ b := fresh_next hblk (Nat.le_trans hbel.size hb1.size) fr2
        have hS : ∀ b, wb = some b → ¬ (b = w.heap.size ∨ blk = some b) := fun b hb h => h.elim (hwb b hb).2.1 (hwb b hb).2.2
        have hw1 : ∀ b, wb = some b → b < w1.heap.size := fun b hb => Nat.lt_of_lt_of_le (hwb b hb).1 hb1.size
        refine ⟨rfl, blk2, st2, hf2, (hrd.below hb1 fun b hb => (hwb b hb).1).kept kp2 fun b hb => ⟨hw1 b hb, hS b hb⟩, fun b hb => ⟨Nat.lt_of_lt_of_le (hw1 b hb) kp2.size, (hwb b hb).2.1, ?_⟩, ?_, Nat.lt_of_lt_of_le hgl (Nat.le_trans hb1.size kp2.size)⟩
        · rcases fr2 with rfl | ⟨b', rfl, hle⟩
          · exact (hwb b hb).2.2
          · intro e; obtain rfl := Option.some.inj e; have := hw1 b' hb; omega
        · exact (hbel.trans (hb1.mono hbel.size)).trans (kp2.belowB (Nat.le_trans hbel.size hb1.size) fun i hi h => by
            rcases h with h | h
            · omega
            · have := hblk i h; omega)
      have P0 := Lib.hid POST0
      have HR0 := Lib.hid hr0
      have HC0 := Lib.hid hc0
      have HL := Lib.hid hL
      clear POST0 hrd hst hwb hblk h40 hr0 hc0 hbA hL h1 hk40
      go_wp2_with (first | (at_builtin; (refine wpList_append_sl rfl _ _ 22 22 5 rfl under22 info5 rfl Nat.zero_lt_one rfl rfl slA srA BD0.out ?_); intro v1 w1 blk1 sl1 fr1 kp1; obtain ⟨⟨Av, Cv, rfl⟩, hb1, CF⟩ := P0.out v1 w1 blk1 sl1 fr1 kp1; have CF' := Lib.hid CF; clear slA srA sl1 fr1 kp1 CF) | (go_at_call 18; (with_reducible refine CF'.out.mono ?_); rintro e w2 ⟨rfl, blk2, st2, hf2, rd2, wb2, bel2, hg2⟩; have ST2 := Lib.hid st2; have HF2 := Lib.hid hf2; have RD2 := Lib.hid rd2; have WB2 := Lib.hid wb2; clear st2 hf2 rd2 wb2 CF' cr hb1 hgl hbel) | fail)
      -- the reference reads
      obtain ⟨want, rest, hWR⟩ : ∃ want rest, Fr.frames (L ++ p) = (want, rest) := ⟨_, _, rfl⟩
      have hrl : rest.length ≤ L.length + p.length := by
        have := frames_rest _ (L ++ p) (Nat.le_refl _)
        rw [hWR, List.length_append] at this; exact this
      have HWR := Lib.hid hWR
      have RW := Lib.hid (show ∀ W : World, Below w2.heap.size w2 W → Rd W 1 (.slice A L.length C) L.length (bvals L) from fun W h => (RD2.out.below h fun b hb => (WB2.out b hb).1).rd)
      have PW := Lib.hid (show ∀ W : World, Below w2.heap.size w2 W → Rd W 1 (.slice Ak p.length Ck) p.length (bvals p) from fun W h => (HR0.out.below bel2).below h)
      have CW := Lib.hid (show ∀ W : World, Below w2.heap.size w2 W → W.cell? ⟨pb, po + k, none⟩ = some (.slice Ak p.length Ck) from fun W h => by
        rw [(bel2.trans (h.mono bel2.size)).cell (p := ⟨pb, po + k, none⟩) hpl]; exact HC0.out)
      have POST1 : ∀ (v3 : Value) (w3 : World) (blk3 : Option Nat), Sl w3 1 v3 blk3 (0 + L.length) ([] ++ bvals L) → (blk3 = none ∨ ∃ b, blk3 = some b ∧ (w2.drew.alloc (.cells #[] 5)).heap.size ≤ b) → Kept (fun k => (none : Option Nat) = some k) (w2.drew.alloc (.cells #[] 5)) w3 →
          (∃ A3 C3, v3 = .slice A3 L.length C3) ∧ Below w2.heap.size w2 w3 ∧ Sl w3 1 v3 blk3 L.length (bvals L) ∧ ∀ b, blk3 = some b → w2.heap.size ≤ b := by
        intro v3 w3 blk3 sl3 fr3 kp3
        rw [List.nil_append, Nat.zero_add] at sl3
        have hA : Below w2.heap.size w2 (w2.drew.alloc (.cells #[] 5)) := (below_drew w2).alloc (Nat.le_refl _) _
        exact ⟨sl3.rd.len, Kept.toBelow hA kp3 (fun b hb => by cases hb), sl3, fresh_next (fun b hb => by cases hb) hA.size fr3⟩
      have POST2 : ∀ (w3 : World) (blk3 : Option Nat) (v4 : Value) (w4 : World) (blk4 : Option Nat), Below w2.heap.size w2 w3 → (∀ b, blk3 = some b → w2.heap.size ≤ b) → Sl w4 1 v4 blk4 (L.length + p.length) (bvals L ++ bvals p) → (blk4 = blk3 ∨ ∃ b, blk4 = some b ∧ w3.heap.size ≤ b) → Kept (fun k => blk3 = some k) w3 w4 →
          (∃ A4 N4 C4, v4 = .slice A4 N4 C4) ∧ Below w2.heap.size w2 w4 ∧ Calls Try.prog 19 #[v4] w4 fun e w5 => Below w2.heap.size w2 w5 ∧ ∃ Ao Co Ar Cr blko vals5, e = .returned (.tuple #[.slice Ao want.length Co, .slice Ar rest.length Cr]) ∧
            SlRows w2.heap.size w5 (.slice Ao want.length Co) blko want vals5 ∧ (∀ b, blko = some b → w2.heap.size ≤ b) ∧ RdO w5 (.slice Ar rest.length Cr) rest blk4 ∧ (∀ b, blk4 = some b → w2.heap.size ≤ b ∧ b < w5.heap.size) := by
        intro w3 blk3 v4 w4 blk4 hb3 hf3 sl4 fr4 kp4
        have hb4 := Kept.toBelow hb3 kp4 hf3
        have hf4 : ∀ b, blk4 = some b → w2.heap.size ≤ b := fresh_next hf3 hb3.size fr4
        rw [← bvals_append, ← List.length_append] at sl4
        obtain ⟨A4, C4, rfl⟩ := sl4.rd.len
        refine ⟨⟨_, _, _, rfl⟩, hb4, (refFrames_any A4 C4 (L ++ p) w4 sl4.rd (by rw [List.length_append]; omega)).mono ?_⟩
        rintro e w5 ⟨hb5, vo, vr, blko, vals5, rfl, hsl5, hfo, hrd5⟩
        rw [hWR] at hsl5 hrd5
        have hsl4 := sl4.below hb5 Nat.zero_lt_one
        have hR : RdO w5 vr rest blk4 := fun W hW => hrd5 W (hsl4.of_block hW).rd
        obtain ⟨Ao, Co, rfl⟩ := hsl5.2.1.rd.len
        obtain ⟨Ar, Cr, rfl⟩ := hR.rd.len
        refine ⟨hb4.trans (hb5.mono hb4.size), Ao, Co, Ar, Cr, blko, vals5, rfl, ⟨hsl5.1, hsl5.2.1, hsl5.2.2.1, fun i q hq => ?_⟩, fun b hb => Nat.le_trans hb4.size (hfo b hb), hR, fun b hb => ⟨hf4 b hb, by subst hb; exact hsl4.lt Nat.zero_lt_one⟩⟩
        obtain ⟨u, pb, h1, h2, h3⟩ := hsl5.2.2.2 i q hq
        exact ⟨u, pb, h1, h2, fun b hb => ⟨(h3 b hb).1, Nat.le_trans hb4.size (h3 b hb).2⟩⟩
      have P1 := Lib.hid POST1
      have P2 := Lib.hid POST2
      have BD1 := Lib.hid (show (3 * (0 + L.length) + 1024) * (1 + 1) ≤ 281474976710656 by omega)
      have BD2 := Lib.hid (show (3 * (L.length + p.length) + 1024) * (1 + 1) ≤ 281474976710656 by omega)
      have hA2 : Below w2.heap.size w2 (w2.drew.alloc (.cells #[] 5)) := (below_drew w2).alloc (Nat.le_refl _) _
      have hA1 := below_drew w2
      clear POST1 POST2 hWR h500 h41
      go_region_held3 (fun W => W.cell? ⟨pb, po + k, none⟩ = some (.slice Ak p.length Ck)) (first | exact CW.out _ hA5 | exact CW.out _ hA4 | exact CW.out _ hA3 | exact CW.out _ hA2 | exact CW.out _ hA1) (first | (refine step_append_sl rfl _ _ 22 22 5 rfl under22 info5 rfl Nat.zero_lt_one rfl rfl (Sl.empty _ 1 _) ((RW.out _ hA2).srcB) BD1.out ?_; intro v3 w3 blk3 sl3' fr3' kp3'; obtain ⟨⟨A3, C3, rfl⟩, hA3, sl3, hf3⟩ := P1.out v3 w3 blk3 sl3' fr3' kp3'; have HF3 := Lib.hid hf3; clear sl3' fr3' kp3' hf3) | (refine step_append_sl rfl _ _ 22 22 5 rfl under22 info5 rfl Nat.zero_lt_one rfl rfl sl3 ((PW.out _ hA3).srcB) BD2.out ?_; intro v4 w4 blk4 sl4 fr4 kp4; obtain ⟨⟨A4, N4, C4, rfl⟩, hA4, CF⟩ := P2.out w3 blk3 v4 w4 blk4 hA3 HF3.out sl4 fr4 kp4; have CF' := Lib.hid CF; clear sl4 fr4 kp4 CF) | (go_at_call 19; (with_reducible refine CF'.out.mono ?_); rintro e w5 ⟨hA5, Ao, Co, Ar, Cr, blko, vals5, rfl, hsl5, hfo, hR5, hf4⟩; have HSL5 := Lib.hid hsl5; have HFO := Lib.hid hfo; have HR5 := Lib.hid hR5; have HF4 := Lib.hid hf4; clear hsl5 hfo hR5 hf4))
      have hst5 : Strm w5 w.heap.size blk2 (L ++ p) := ST2.out.below hA5
      have hg5 : w.heap.size < w5.heap.size := Nat.lt_of_lt_of_le hg2 hA5.size
      have hb25 := bel2.trans (hA5.mono bel2.size)
      have REL1 := Lib.hid (show InRel want rest (L.length + p.length) w.heap.size blk2 w5 (.int .i64 0) w5 from
        ⟨0, L ++ p, blk2, Nat.zero_le _, rfl, hst5, by rw [HWR.out]; rfl, by rw [List.length_append]; exact Nat.le_refl _, .inl rfl, Kept.refl _ _⟩)
      have hwl : want.length ≤ 9223372036854775807 := by
        have h1 := HSL5.out.2.1
        obtain ⟨_, ⟨_, _, h2, _⟩ | ⟨_, _, _, _, hv, _, h3, h4, _⟩⟩ := h1
        · omega
        · unfold maxLen at h4; omega
      have HB25 := Lib.hid hb25
      -- what holds behind the last look
      have LAST : ∀ (wq : World) (M : List UInt8) (blkM : Option Nat), Strm wq w.heap.size blkM M → Fr.frames M = ([], rest) → (blkM = blk2 ∨ blkM = none) → M.length ≤ L.length + p.length → Kept (fun i => i = w.heap.size) w5 wq →
          Calls Try.prog 20 #[.pointer (some ⟨w.heap.size, 0, none⟩)] wq fun e w6 => e = .returned (.tuple #[.slice none 0 0, .bool false]) ∧ (∃ blk6, Strm w6 w.heap.size blk6 rest) ∧ ReadsRel ps w w.heap.size (.slice Ar rest.length Cr) (.int .i64 ((k : Int) + 1)) w6 := by
        intro wq M blkM st hfm hbm hml kq
        refine (next_any _ _ _ _ st (by omega)).mono ?_
        rintro e w6 ⟨⟨blk6, st6, hb6⟩, kp6, h⟩
        have hnx : (Fr.next M).1 = none := by
          rcases hx : (Fr.next M).1 with _ | q
          · rfl
          · have := Fr.next_some M q hx
            rw [hfm] at this; cases this
        have hnr : (Fr.next M).2 = rest := by
          have := Fr.next_none M hnx
          rw [hfm] at this; injection this with _ h2; exact h2.symm
        rw [hnr] at st6
        rw [hnx] at h
        rcases h with ⟨_, rfl⟩ | ⟨q, _, _, hq, _⟩
        · have k6 : Kept (fun i => i = w.heap.size) w5 w6 := kq.trans kp6 fun _ _ h => h
          have hb62 : blk6 = blk2 ∨ blk6 = none := by
            rcases hb6 with rfl | rfl
            · exact hbm
            · exact .inr rfl
          refine ⟨rfl, ⟨blk6, st6⟩, k + 1, rest, blk6, blk4, Ar, Cr, by omega, by simp, rfl, by have := HL.out; omega, fun _ => by omega, st6, HR5.out.kept k6 fun b hb => ⟨(HF4.out b hb).2, fun e => by have := (HF4.out b hb).1; omega⟩, fun b hb => ⟨Nat.lt_of_lt_of_le (HF4.out b hb).2 k6.size, fun e => by have := (HF4.out b hb).1; omega, fun e => ?_⟩, fun b hb => ?_, HB25.out.trans (k6.belowB HB25.out.size fun i hi h => by omega), Nat.lt_of_lt_of_le hg5 k6.size⟩
          · rcases hb62 with h | h
            · have h1 := ST2.out
              rw [h] at e
              obtain ⟨_, _, _, h2, _⟩ := h1
              subst e
              have := h2.lt Nat.zero_lt_one
              have := (HF4.out b hb).1; omega
            · rw [h] at e; cases e
          · rcases hb62 with h | h
            · exact HF2.out b (by rw [← h]; exact hb)
            · rw [h] at hb; cases hb
        · cases hq
      -- a payload more
      have MORE : ∀ (wq : World) (M : List UInt8) (blkM : Option Nat) (j : Nat), j < want.length → Strm wq w.heap.size blkM M → Fr.frames M = (want.drop j, rest) → (blkM = blk2 ∨ blkM = none) → M.length ≤ L.length + p.length → Kept (fun i => i = w.heap.size) w5 wq →
          ∃ (q : List UInt8) (ob oo : Nat) (Aq : Option Addr) (Cq : Nat), Ao = some ⟨ob, oo, none⟩ ∧ Calls Try.prog 20 #[.pointer (some ⟨w.heap.size, 0, none⟩)] wq fun e w6 => ∃ Av6 Cv6, e = .returned (.tuple #[.slice Av6 q.length Cv6, .bool true]) ∧ Rd w6 1 (.slice Av6 q.length Cv6) q.length (bvals q) ∧ Rd w6 1 (.slice Aq q.length Cq) q.length (bvals q) ∧
            w6.cell? ⟨ob, oo + j, none⟩ = some (.slice Aq q.length Cq) ∧ InRel want rest (L.length + p.length) w.heap.size blk2 w5 (.int .i64 ((j : Int) + 1)) w6 := by
        intro wq M blkM j hj st hfm hbm hml kq
        have hdj : want.drop j = want.getD j [] :: want.drop (j + 1) := by
          rw [List.drop_eq_getElem_cons hj, List.getD_eq_getElem?_getD, List.getElem?_eq_getElem hj]; rfl
        obtain ⟨hvl, hso, _, hrows⟩ := HSL5.out
        obtain ⟨ob, oo, hAo⟩ : ∃ ob oo, Ao = some ⟨ob, oo, none⟩ ∧ blko = some ob := by
          obtain ⟨_, ⟨_, _, h2, _⟩ | ⟨ob, oo, _, hb, hv, _⟩⟩ := hso
          · omega
          · simp only [Value.slice.injEq] at hv
            exact ⟨ob, oo, hv.1, hb⟩
        obtain ⟨u, pbq, hu, hsu, hfu⟩ := hrows j (want.getD j []) (by rw [List.getD_eq_getElem?_getD, List.getElem?_eq_getElem hj]; rfl)
        obtain ⟨Aq, Cq, rfl⟩ := hsu.rd.len
        refine ⟨want.getD j [], ob, oo, Aq, Cq, hAo.1, (next_any _ _ _ _ st (by omega)).mono ?_⟩
        rintro e w6 ⟨⟨blk6, st6, hb6⟩, kp6, h⟩
        have k6 : Kept (fun i => i = w.heap.size) w5 w6 := kq.trans kp6 fun _ _ h => h
        have hnx : (Fr.next M).1 = some (want.getD j []) ∧ Fr.frames (Fr.next M).2 = (want.drop (j + 1), rest) := by
          rcases hx : (Fr.next M).1 with _ | q
          · have := Fr.next_none M hx
            rw [hfm, hdj] at this; cases this
          · have := Fr.next_some M q hx
            rw [hfm, hdj] at this
            injection this with h2 h3
            injection h2 with h4 h5
            exact ⟨by rw [h4], by rw [h5, h3]⟩
        rw [hnx.1] at h
        rcases h with ⟨h, _⟩ | ⟨q, v, pb6, hq, rfl, hsv, _⟩
        · cases h
        · obtain rfl := Option.some.inj hq
          obtain ⟨Av6, Cv6, rfl⟩ := hsv.rd.len
          have hsu6 := hsu.kept k6 Nat.zero_lt_one (fun b hb h => by have := (hfu b hb).2; omega)
          have hso6 := hso.kept k6 Nat.zero_lt_one (fun b hb h => by have := HFO.out b hb; omega)
          refine ⟨Av6, Cv6, rfl, hsv.rd, hsu6.rd, ?_, j + 1, (Fr.next M).2, blk6, by omega, by simp, st6, hnx.2, Nat.le_trans (Fr.next_length M) hml, ?_, k6⟩
          · obtain ⟨_, ⟨_, _, h2, _⟩ | ⟨ob', oo', _, _, hv, _, _, _, hcell, _⟩⟩ := hso6
            · omega
            · rw [hAo.1] at hv
              simp only [Value.slice.injEq, Option.some.injEq, Addr.mk.injEq, and_true] at hv
              obtain ⟨⟨rfl, rfl⟩, _⟩ := hv
              exact hcell j _ hu
          · rcases hb6 with rfl | rfl
            · exact hbm
            · exact .inr rfl
      have LAST' := Lib.hid LAST
      have MORE' := Lib.hid MORE
      clear LAST MORE hst5 hb25 hA1 hA2 hA3 hA4 sl3
      go_wp2_with fail
      go_loopw [8] (fun jv wq => InRel want rest (L.length + p.length) w.heap.size blk2 w5 jv wq) (fun jv _ => want.length - (intOf jv).toNat)
      case atStart => exact REL1.out
      case round =>
        obtain ⟨j, M, blkM, hj, rfl, hstM, hfM, hlM, hbM, hkM⟩ := hrel
        by_cases hjl : j < want.length
        · obtain ⟨q, ob, oo, Aq, Cq, rfl, CN⟩ := MORE'.out _ M blkM j hjl hstM hfM hbM hlM hkM
          have CN' := Lib.hid CN
          have j1 : (j : Int) < (want.length : Int) := by omega
          have j2 : (0 : Int) ≤ (j : Int) := by omega
          have j3 : (j : Int) < 9223372036854775807 := by omega
          clear hstM hfM hbM hlM hkM CN
          go_wp2_with (first | (go_at_call 20; (with_reducible refine CN'.out.mono ?_); rintro e w6 ⟨Av6, Cv6, rfl, rd6, rq6, cq6, hin6⟩; have HIN := Lib.hid hin6; clear hin6) | fail)
          have cvA : ∀ nq, (convert 22 9 (.slice Av6 q.length Cv6)).run Try.prog (w6.drewN nq) = .ok (.string (str q)) (w6.drewN nq) := fun nq => conv_str (rd6.below (below_drewN' (Below.refl _ _) nq))
          have cvB : ∀ nq, (convert 22 9 (.slice Aq q.length Cq)).run Try.prog (w6.drewN nq) = .ok (.string (str q)) (w6.drewN nq) := fun nq => conv_str (rq6.below (below_drewN' (Below.refl _ _) nq))
          clear rd6 rq6
          go_quiet (fail)
          go_wp2_with fail
          trace_state
          exact ⟨HIN.out.drewN _, by simp [intOf]; omega⟩
        · have hfM' : Fr.frames M = ([], rest) := by rw [hfM, List.drop_eq_nil_of_le (by omega)]
          have CN := Lib.hid (LAST'.out _ M blkM hstM hfM' hbM hlM hkM)
          have j1 : ¬ (j : Int) < (want.length : Int) := by omega
          have i5 : (k : Int) < 9223372036854775807 := by have := HM.out; omega
          clear hstM hfM hfM' hbM hlM hkM
          go_wp2_with (first | (go_at_call 20; (with_reducible refine CN.out.mono ?_); rintro e w6 ⟨rfl, ⟨blk6, st6⟩, hrel6⟩; have REL6 := Lib.hid hrel6; have ST6 := Lib.hid st6; clear hrel6 st6) | (go_at_call 21; refine (held_any _ _ _ _ ST6.out).mono ?_; rintro e w7 ⟨rfl, h7⟩; rw [h7]; clear h7 w7) | fail)
          trace_state
          exact ⟨REL6.out, by simp [intOf]; omega⟩
    · have i1 : ¬ (k : Int) < (ps.length : Int) := by omega
      clear hrd hst hwb hblk hL h40
      go_wp2_with (first | (go_at_call 15; refine (answers03 _).mono ?_; rintro e w3 ⟨rfl, hb3⟩) | fail)
      go_ret
      exact ⟨rfl, hbel.trans (hb3.mono hbel.size)⟩
end Go.Proofs.Ytclgnginmgleaaa
