/-
  The walk of FrameFinds.
-/
import Derived.Test.YtclgnginmgleaaaReads
namespace Go.Proofs.Ytclgnginmgleaaa
open Go Go.RowKit Go.Sort

/-- Frames behind junk. -/
def fnd (jf : List UInt8) (ps : List (List UInt8)) : List UInt8 := ps.flatMap fun p => jf ++ Fr.frameOf p
def unmarked (l : List UInt8) : List UInt8 := l.filter fun x => !(x == 165)
theorem unmarked_ne (l : List UInt8) : ∀ x ∈ unmarked l, x ≠ 165 := by
  intro x hx; simpa [unmarked] using (List.mem_filter.1 hx).2
theorem unmarked_len (l : List UInt8) : (unmarked l).length ≤ l.length := List.length_filter_le _ _
theorem unmarked_snoc (l : List UInt8) (x : UInt8) : unmarked (l ++ [x]) = if x = 165 then unmarked l else unmarked l ++ [x] := by
  unfold unmarked
  rw [List.filter_append]
  by_cases h : x = 165 <;> simp [List.filter_cons, h]
theorem fnd_snoc (jf : List UInt8) (ps : List (List UInt8)) (p : List UInt8) : fnd jf (ps ++ [p]) = fnd jf ps ++ jf ++ Fr.frameOf p := by simp [fnd]
theorem fnd_frames (jf : List UInt8) (hj : ∀ x ∈ jf, x ≠ 165) : ∀ ps : List (List UInt8), (∀ p ∈ ps, 1 ≤ p.length ∧ p.length ≤ 64) → Fr.frames (fnd jf ps) = (ps, [])
  | [], _ => rfl
  | p :: ps, h => by
    have h1 := h p (by simp)
    have ih := fnd_frames jf hj ps fun q hq => h q (by simp [hq])
    have e : fnd jf (p :: ps) = jf ++ (Fr.frameOf p ++ fnd jf ps) := by simp [fnd]
    rw [e, Fr.frames_junk _ _ hj, Fr.frames_one _ _ h1.1 h1.2, ih]
theorem fnd_len (jf : List UInt8) (hj : jf.length ≤ 200) : ∀ ps : List (List UInt8), (∀ p ∈ ps, p.length ≤ 64) → (fnd jf ps).length ≤ 270 * ps.length
  | [], _ => by simp [fnd]
  | p :: ps, h => by
    have h1 := h p (by simp)
    have ih := fnd_len jf hj ps fun q hq => h q (by simp [hq])
    have e : (fnd jf (p :: ps)).length = jf.length + (p.length + 6) + (fnd jf ps).length := by
      show ((p :: ps).flatMap fun p => jf ++ Fr.frameOf p).length = jf.length + (p.length + 6) + (ps.flatMap fun p => jf ++ Fr.frameOf p).length
      rw [List.flatMap_cons, List.length_append, List.length_append, Fr.frameOf_length]
    rw [e, List.length_cons]; omega

def Finds1 (ps : List (List UInt8)) (jn : List UInt8) (w : World) (av iv : Value) (wr : World) : Prop :=
  ∃ (k n : Nat) (blk : Option Nat) (A : Option Addr) (C : Nat), k ≤ ps.length ∧ iv = .int .i64 k ∧ av = .slice A n C ∧ n = (fnd (unmarked jn) (ps.take k)).length ∧ Sl wr 1 av blk n (bvals (fnd (unmarked jn) (ps.take k))) ∧ (∀ b, blk = some b → w.heap.size ≤ b) ∧ Below w.heap.size w wr ∧
    (1 ≤ k → ps.length ≤ 20 ∧ jn.length ≤ 200) ∧ ∀ p ∈ ps.take k, 1 ≤ p.length ∧ p.length ≤ 64
def Finds2 (l0 jn : List UInt8) (w : World) (av kv : Value) (wr : World) : Prop :=
  ∃ (j n : Nat) (blk : Option Nat) (A : Option Addr) (C : Nat), j ≤ jn.length ∧ kv = .int .i64 j ∧ av = .slice A n C ∧ n = (l0 ++ unmarked (jn.take j)).length ∧ Sl wr 1 av blk n (bvals (l0 ++ unmarked (jn.take j))) ∧ (∀ b, blk = some b → w.heap.size ≤ b) ∧ Below w.heap.size w wr

/-- A byte of a slice that is read. -/
theorem Rd.byte {w : World} {a : Option Addr} {c : Nat} {l : List UInt8} (h : Rd w 1 (.slice a l.length c) l.length (bvals l)) (k : Nat) (hk : k < l.length) :
    ∃ b off, a = some ⟨b, off, none⟩ ∧ w.cell? ⟨b, off + k, none⟩ = some (.int .u8 ((l.getD k 0).toNat : Int)) ∧ b < w.heap.size ∧ l.length ≤ c ∧ c ≤ maxLen := by
  obtain ⟨_, ⟨_, _, h0, _⟩ | ⟨b, off, cap, hv, _, h1, h2, hc⟩⟩ := h
  · omega
  · simp only [Value.slice.injEq, true_and] at hv
    obtain ⟨rfl, rfl⟩ := hv
    have := hc k _ (bvals_get l k hk)
    refine ⟨b, off, rfl, ?_, cell_lt this, h1, h2⟩
    rw [this, List.getD_eq_getElem?_getD, List.getElem?_eq_getElem hk]; rfl

def Finds3 (ps : List (List UInt8)) (all : List UInt8) (np g : Nat) (w w0 : World) (atv gv iv : Value) (wr : World) : Prop :=
  ∃ (a c i : Nat) (blk : Option Nat) (M : List UInt8), a ≤ all.length ∧ c ≤ ps.length ∧ atv = .int .i64 a ∧ gv = .int .i64 c ∧ iv = .int .i64 i ∧ (i ≤ np ∨ (a = all.length ∧ i ≤ np + 1)) ∧ Strm wr g blk M ∧ Fr.frames (all.take a) = (ps.take c, M) ∧ M.length ≤ all.length ∧
    (∀ b, blk = some b → g < b) ∧ Kept (fun i => g ≤ i) w0 wr ∧ Below w.heap.size w wr
def Finds4 (ps : List (List UInt8)) (all : List UInt8) (a1 g : Nat) (w w0 : World) (gv : Value) (wr : World) : Prop :=
  ∃ (c : Nat) (blk : Option Nat) (X : List UInt8), c ≤ ps.length ∧ gv = .int .i64 c ∧ Strm wr g blk X ∧ Fr.frames (all.take a1) = (ps.take c ++ (Fr.frames X).1, (Fr.frames X).2) ∧ X.length ≤ 2 * all.length ∧ (∀ b, blk = some b → g < b) ∧ Kept (fun i => g ≤ i) w0 wr ∧ Below w.heap.size w wr

theorem Finds4.drewN {ps : List (List UInt8)} {all : List UInt8} {a1 g : Nat} {w w0 : World} {gv : Value} {wr : World} (h : Finds4 ps all a1 g w w0 gv wr) (m : Nat) : Finds4 ps all a1 g w w0 gv (wr.drewN m) := by
  obtain ⟨c, blk, X, h1, h2, h3, h4, h5, h6, h7, h8⟩ := h
  exact ⟨c, blk, X, h1, h2, h3.below (below_drewN' (Below.refl _ _) m), h4, h5, h6, h7.drewN m, below_drewN' h8 m⟩

set_option maxRecDepth 100000 in
set_option maxHeartbeats 2000000 in
theorem frameFinds_walk (ps : List (List UInt8)) (vals : List Value) (jn pt : List UInt8) (a1 a2 a3 : Option Addr) (c1 c2 c3 : Nat) (w : World) (h1 : RdRows w (.slice a1 ps.length c1) ps vals) (h2 : Rd w 1 (.slice a2 jn.length c2) jn.length (bvals jn)) (h3 : Rd w 1 (.slice a3 pt.length c3) pt.length (bvals pt))
    (hm : ps.length ≤ 9223372036854775807) (hm2 : jn.length ≤ 140737488351232) (hm3 : pt.length ≤ 140737488351232) :
    Calls Try.prog 8 #[.slice a1 ps.length c1, .slice a2 jn.length c2, .slice a3 pt.length c3] w fun e w' => e = .returned (.bool true) ∧ Below w.heap.size w w' := by
  have REL0 := Lib.hid (show Finds1 ps jn w (.slice none 0 0) (.int .i64 0) w from
    ⟨0, 0, none, none, 0, Nat.zero_le _, rfl, rfl, rfl, Sl.nil _ _, (fun b hb => by cases hb), Below.refl _ _, (fun h => by omega), fun p hp => by simp at hp⟩)
  have H1 := Lib.hid h1
  have H2 := Lib.hid h2
  have H3 := Lib.hid h3
  have HM := Lib.hid hm
  clear h1 h2 h3 hm
  go_enter Try.func8, Try.ntmps8
  go_wp2_with fail
  go_loopw [7, 8] (fun av iv wr => Finds1 ps jn w av iv wr) (fun _ iv _ => ps.length - (intOf iv).toNat)
  case atStart => exact REL0.out
  case round =>
    obtain ⟨k, n, blk, A, C, hk, rfl, rfl, hn, hsl, hblk, hbel, h20, hok⟩ := hrel
    by_cases hlt : k < ps.length
    · obtain ⟨pb, po, Ak, Ck, rfl, _, hc0, hr0, hpl⟩ := H1.out.at_ k hlt
      have hpd : ps.take (k + 1) = ps.take k ++ [ps.getD k []] := by
        rw [List.take_succ_eq_append_getElem hlt, List.getD_eq_getElem?_getD, List.getElem?_eq_getElem hlt]; rfl
      generalize ps.getD k [] = p at hc0 hr0 hpd
      have i1 : (k : Int) < (ps.length : Int) := by omega
      have i2 : (0 : Int) ≤ (k : Int) := by omega
      have hpr : pb < wr.heap.size := Nat.lt_of_lt_of_le hpl hbel.size
      have cr : wr.cell? ⟨pb, po + k, none⟩ = some (.slice Ak p.length Ck) := by rw [hbel.cell (p := ⟨pb, po + k, none⟩) hpl]; exact hc0
      have HR0 := Lib.hid hr0
      have HC0 := Lib.hid hc0
      have HPD := Lib.hid hpd
      have HN := Lib.hid hn
      have HSL := Lib.hid hsl
      have HBLK := Lib.hid hblk
      have H20 := Lib.hid h20
      have HOK := Lib.hid hok
      clear hr0 hc0 hpd hn hsl hblk h20 hok
      by_cases b1 : 20 < ps.length
      · have i3 : (20 : Int) < (ps.length : Int) := by omega
        go_wp2_with (first | (go_at_call 15; refine (answers03 _).mono ?_; rintro e w3 ⟨rfl, hb3⟩) | fail)
        go_ret
        exact ⟨rfl, hbel.trans (hb3.mono hbel.size)⟩
      have i3 : ¬ (20 : Int) < (ps.length : Int) := by omega
      by_cases b2 : p.length < 1
      · have i4 : (p.length : Int) < 1 := by omega
        go_wp2_with (first | (go_at_call 15; refine (answers03 _).mono ?_; rintro e w3 ⟨rfl, hb3⟩) | fail)
        go_ret
        exact ⟨rfl, hbel.trans (hb3.mono hbel.size)⟩
      have i4 : ¬ (p.length : Int) < 1 := by omega
      by_cases b3 : 64 < p.length
      · have i5 : (64 : Int) < (p.length : Int) := by omega
        go_wp2_with (first | (go_at_call 15; refine (answers03 _).mono ?_; rintro e w3 ⟨rfl, hb3⟩) | fail)
        go_ret
        exact ⟨rfl, hbel.trans (hb3.mono hbel.size)⟩
      have i5 : ¬ (64 : Int) < (p.length : Int) := by omega
      by_cases b4 : 200 < jn.length
      · have i6 : (200 : Int) < (jn.length : Int) := by omega
        go_wp2_with (first | (go_at_call 15; refine (answers03 _).mono ?_; rintro e w3 ⟨rfl, hb3⟩) | fail)
        go_ret
        exact ⟨rfl, hbel.trans (hb3.mono hbel.size)⟩
      have i6 : ¬ (200 : Int) < (jn.length : Int) := by omega
      have hlen0 : (fnd (unmarked jn) (ps.take k)).length ≤ 5400 := by
        have := fnd_len (unmarked jn) (by have := unmarked_len jn; omega) (ps.take k) fun q hq => (HOK.out q hq).2
        rw [List.length_take] at this
        omega
      obtain ⟨l0, hl0⟩ : ∃ l0, l0 = fnd (unmarked jn) (ps.take k) := ⟨_, rfl⟩
      have REL2 := Lib.hid (show Finds2 l0 jn w (.slice A n C) (.int .i64 0) wr from
        ⟨0, n, blk, A, C, Nat.zero_le _, rfl, rfl, by rw [HN.out, hl0]; simp [unmarked], by rw [hl0]; simpa [unmarked] using HSL.out, HBLK.out, hbel⟩)
      have hl0n : l0.length ≤ 5400 := by rw [hl0]; exact hlen0
      have HL0 := Lib.hid hl0
      have HB0 := Lib.hid hbel
      clear hl0 hlen0 hbel
      go_wp2_with fail
      clear cr
      go_loopw [7, 9] (fun av kv wq => Finds2 l0 jn w av kv wq) (fun _ kv _ => jn.length - (intOf kv).toNat)
      case atStart => exact REL2.out
      case round =>
        obtain ⟨j, m, blk2, A2, C2, hj, rfl, rfl, hm, hsl2, hblk2, hbel2⟩ := hrel
        have hml : m ≤ 5600 := by
          rw [hm, List.length_append]
          have h1 := unmarked_len (jn.take j)
          rw [List.length_take] at h1
          omega
        by_cases hjl : j < jn.length
        · obtain ⟨jb, jo, rfl, hcj0, hjb, _⟩ := H2.out.byte j hjl
          have hjd : jn.take (j + 1) = jn.take j ++ [jn.getD j 0] := by
            rw [List.take_succ_eq_append_getElem hjl, List.getD_eq_getElem?_getD, List.getElem?_eq_getElem hjl]; rfl
          generalize jn.getD j 0 = x at hcj0 hjd
          have j1 : (j : Int) < (jn.length : Int) := by omega
          have j2 : (0 : Int) ≤ (j : Int) := by omega
          have hjr : jb < wr.heap.size := Nat.lt_of_lt_of_le hjb hbel2.size
          have cj : wr.cell? ⟨jb, jo + j, none⟩ = some (.int .u8 (x.toNat : Int)) := by rw [hbel2.cell (p := ⟨jb, jo + j, none⟩) hjb]; exact hcj0
          by_cases hx : x = 165
          · subst hx
            rw [show (((165 : UInt8).toNat : Int)) = 165 from rfl] at cj
            have FIN := Lib.hid (show Finds2 l0 jn w (.slice A2 m C2) (.int .i64 ((j : Int) + 1)) wr from
              ⟨j + 1, m, blk2, A2, C2, by omega, by simp, rfl, by rw [hjd, unmarked_snoc, if_pos rfl]; exact hm, by rw [hjd, unmarked_snoc, if_pos rfl]; exact hsl2, hblk2, hbel2⟩)
            clear hsl2 hblk2 hbel2 hm hjd hcj0
            go_wp2_with fail
            exact ⟨FIN.out, by simp [intOf]; omega⟩
          · have hne : (((x.toNat : Int)) != 165) = true := by
              rw [bne_iff_ne]
              intro h; apply hx; apply UInt8.toNat_inj.1; exact Int.ofNat.inj h
            have hbA : Below wr.heap.size wr (wr.alloc (.cells #[.int .u8 (x.toNat : Int)] 5)) := (Below.refl _ _).alloc (Nat.le_refl _) _
            have slA := hsl2.below hbA Nat.zero_lt_one
            have srA := (lit_sl (w := wr) (e := 5) [.int .u8 (x.toNat : Int)] 1 rfl (by omega) (by omega)).src (P := Try.prog) (by intro u hu; simp at hu; subst hu; rfl) (tx := 22) (e' := 5) under22
            have BD := Lib.hid (show (3 * (m + 1) + 1024) * (1 + 1) ≤ 281474976710656 by omega)
            have POST : ∀ (v1 : Value) (w1 : World) (blk1 : Option Nat), Sl w1 1 v1 blk1 (m + 1) (bvals (l0 ++ unmarked (jn.take j)) ++ [.int .u8 (x.toNat : Int)]) → (blk1 = blk2 ∨ ∃ b, blk1 = some b ∧ (wr.alloc (.cells #[.int .u8 (x.toNat : Int)] 5)).heap.size ≤ b) → Kept (fun k => blk2 = some k) (wr.alloc (.cells #[.int .u8 (x.toNat : Int)] 5)) w1 →
                (∃ A1 N1 C1, v1 = .slice A1 N1 C1) ∧ Finds2 l0 jn w v1 (.int .i64 ((j : Int) + 1)) w1 := by
              intro v1 w1 blk1 sl1 fr1 kp1
              have hB := hbel2.trans (hbA.mono hbel2.size)
              have e : bvals (l0 ++ unmarked (jn.take j)) ++ [.int .u8 (x.toNat : Int)] = bvals (l0 ++ unmarked (jn.take (j + 1))) := by
                rw [hjd, unmarked_snoc, if_neg hx]; simp [bvals]
              rw [e] at sl1
              obtain ⟨A1, C1, rfl⟩ := sl1.rd.len
              exact ⟨⟨_, _, _, rfl⟩, j + 1, m + 1, blk1, A1, C1, by omega, by simp, rfl, by rw [hjd, unmarked_snoc, if_neg hx, hm]; simp [List.length_append]; omega, sl1, fresh_next hblk2 hB.size fr1, Kept.toBelow hB kp1 hblk2⟩
            have P := Lib.hid POST
            clear POST hsl2 hblk2 hbel2 hm hjd hcj0 hbA
            go_wp2_with (first | (at_builtin; (refine wpList_append_sl rfl _ _ 22 22 5 rfl under22 info5 rfl Nat.zero_lt_one rfl rfl slA srA BD.out ?_); intro v1 w1 blk1 sl1 fr1 kp1; obtain ⟨⟨A1, N1, C1, rfl⟩, FF⟩ := P.out v1 w1 blk1 sl1 fr1 kp1; have FF' := Lib.hid FF; clear slA srA sl1 fr1 kp1 FF cj) | fail)
            exact ⟨FF'.out, by simp [intOf]; omega⟩
        · have j1 : ¬ (j : Int) < (jn.length : Int) := by omega
          have hr := (HR0.out.below hbel2)
          have cr : wr.cell? ⟨pb, po + k, none⟩ = some (.slice Ak p.length Ck) := by rw [hbel2.cell (p := ⟨pb, po + k, none⟩) hpl]; exact HC0.out
          have hpq : pb < wr.heap.size := Nat.lt_of_lt_of_le hpl hbel2.size
          have BD := Lib.hid (show (3 * (m + (p.length + 6)) + 1024) * (1 + 1) ≤ 281474976710656 by omega)
          have CF : Calls Try.prog 17 #[.slice Ak p.length Ck] wr fun e w1 => ∃ Av Nv Cv, e = .returned (.slice Av Nv Cv) ∧ Src Try.prog 1 22 (.slice Av Nv Cv) (p.length + 6) (bvals (Fr.frameOf p)) w1 ∧ Sl w1 1 (.slice A2 m C2) blk2 m (bvals (l0 ++ unmarked (jn.take j))) ∧
              ∀ (v4 : Value) (w4 : World) (blk4 : Option Nat), Sl w4 1 v4 blk4 (m + (p.length + 6)) (bvals (l0 ++ unmarked (jn.take j)) ++ bvals (Fr.frameOf p)) → (blk4 = blk2 ∨ ∃ b, blk4 = some b ∧ w1.heap.size ≤ b) → Kept (fun k => blk2 = some k) w1 w4 →
                (∃ A4 N4 C4, v4 = .slice A4 N4 C4) ∧ Finds1 ps jn w v4 (.int .i64 ((k : Int) + 1)) w4 := by
            refine (refFrame_any _ _ _ _ hr (by omega)).mono ?_
            rintro e w1 ⟨hb1, v', blk', rfl, hs, _⟩
            obtain ⟨Av, Cv, rfl⟩ := hs.rd.len
            refine ⟨_, _, _, rfl, hs.src (bvals_one _) under22, hsl2.below hb1 Nat.zero_lt_one, ?_⟩
            intro v4 w4 blk4 sl4 fr4 kp4
            have hB := hbel2.trans (hb1.mono hbel2.size)
            have e : l0 ++ unmarked (jn.take j) ++ Fr.frameOf p = fnd (unmarked jn) (ps.take (k + 1)) := by
              rw [HPD.out, fnd_snoc, ← HL0.out, List.take_of_length_le (by omega)]
            rw [← bvals_append, e] at sl4
            have e2 : m + (p.length + 6) = (fnd (unmarked jn) (ps.take (k + 1))).length := by
              rw [← e, List.length_append, Fr.frameOf_length, hm]
            obtain ⟨A4, C4, rfl⟩ := sl4.rd.len
            refine ⟨⟨_, _, _, rfl⟩, k + 1, _, blk4, A4, C4, by omega, by simp, rfl, e2, sl4, fresh_next hblk2 hB.size fr4, Kept.toBelow hB kp4 hblk2, fun _ => by omega, fun q hq => ?_⟩
            rw [HPD.out] at hq
            rcases List.mem_append.1 hq with hq | hq
            · exact HOK.out q hq
            · simp only [List.mem_singleton] at hq; subst hq; omega
          have CF' := Lib.hid CF
          have i7 : (k : Int) < 9223372036854775807 := by have := HM.out; omega
          clear CF hsl2 hblk2 hbel2 hm hr
          go_wp2_with (first | (go_at_call 17; (with_reducible refine CF'.out.mono ?_); rintro e w1 ⟨Av, Nv, Cv, rfl, sr1, sl1, FF⟩; have FF' := Lib.hid FF; clear FF cr) | (at_builtin; (refine wpList_append_sl rfl _ _ 22 22 5 rfl under22 info5 rfl Nat.zero_lt_one rfl rfl sl1 sr1 BD.out ?_); intro v4 w4 blk4 sl4 fr4 kp4; obtain ⟨⟨A4, N4, C4, rfl⟩, FG⟩ := FF'.out v4 w4 blk4 sl4 fr4 kp4; have FG' := Lib.hid FG; clear sl1 sr1 sl4 fr4 kp4 FG) | fail)
          exact ⟨FG'.out, by simp [intOf]; omega⟩
    · have i1 : ¬ (k : Int) < (ps.length : Int) := by omega
      obtain rfl : k = ps.length := by omega
      rw [List.take_of_length_le (Nat.le_refl _)] at hn hsl hok
      have hF := fnd_frames (unmarked jn) (unmarked_ne jn) ps hok
      have hlen0 : (fnd (unmarked jn) ps).length ≤ 5400 := by
        rcases Nat.eq_zero_or_pos ps.length with h | h
        · rw [List.length_eq_zero_iff.1 h]; simp [fnd]
        · have := fnd_len (unmarked jn) (by have := unmarked_len jn; have := (h20 h).2; omega) ps fun q hq => (hok q hq).2
          have := (h20 h).1
          omega
      generalize fnd (unmarked jn) ps = all at hn hsl hF hlen0
      clear hok h20
      obtain ⟨w1, hw1⟩ : ∃ w1 : World, w1 = wr := ⟨_, rfl⟩
      subst hw1
      obtain ⟨w0, hw0⟩ : ∃ w0 : World, w0 = w1.alloc (.cells #[.slice none 0 0] 40) := ⟨_, rfl⟩
      have hbA : Below w1.heap.size w1 w0 := by rw [hw0]; exact (Below.refl _ _).alloc (Nat.le_refl _) _
      have ALL : ∀ W : World, Kept (fun i => w1.heap.size ≤ i) w0 W → Rd W 1 (.slice A n C) n (bvals all) := by
        intro W hW
        refine ((hsl.below hbA Nat.zero_lt_one).kept hW Nat.zero_lt_one fun b hb h => ?_).rd
        subst hb
        have := hsl.lt Nat.zero_lt_one
        omega
      have PREF : ∀ a : Nat, ∃ t, ps = (Fr.frames (all.take a)).1 ++ t := by
        intro a
        have := Fr.frames_append (all.take a) (all.drop a)
        rw [List.take_append_drop, hF] at this
        injection this with h _
        exact ⟨_, h⟩
      have hbel0 := hbel.trans (hbA.mono hbel.size)
      have REL3 := Lib.hid (show Finds3 ps all pt.length w1.heap.size w w0 (.int .i64 0) (.int .i64 0) (.int .i64 0) w0 from
        ⟨0, 0, 0, none, [], Nat.zero_le _, Nat.zero_le _, rfl, rfl, rfl, .inl (Nat.zero_le _), by rw [hw0]; exact Strm.new w1, by simp; rfl, Nat.zero_le _, (fun b hb => by cases hb), Kept.refl _ _, hbel0⟩)
      have HF := Lib.hid hF
      have HALL := Lib.hid ALL
      have HPREF := Lib.hid PREF
      have HSL := Lib.hid hsl
      have HN := Lib.hid hn
      have HW0 := Lib.hid hw0
      have hnl : n ≤ 5400 := by rw [hn]; exact hlen0
      have hg0 : w.heap.size ≤ w1.heap.size := hbel.size
      clear hF ALL PREF hsl hn hbA hbel hbel0 hblk hlen0
      go_wp2_with fail
      rw [← HW0.out]
      clear hw0
      go_loopw [11, 12, 13] (fun atv gv iv wq => Finds3 ps all pt.length w1.heap.size w w0 atv gv iv wq) (fun atv _ iv _ => (pt.length - (intOf iv).toNat) + (n - (intOf atv).toNat))
      case atStart => exact REL3.out
      case round =>
        obtain ⟨a, c, i, blk3, M, ha, hc, rfl, rfl, rfl, hi, hst, hfr, hMl, hb3, hk3, hbel3⟩ := hrel
        by_cases hat : a < n
        · -- how many bytes are fed
          have FED : ∀ m : Nat, 1 ≤ m ∨ i < pt.length → a + m ≤ n → (m < n - a → i < pt.length) →
              ∃ ab ao, A = some ⟨ab, ao, none⟩ ∧ n ≤ C ∧ C ≤ maxLen ∧ Calls Try.prog 18 #[.pointer (some ⟨w1.heap.size, 0, none⟩), .slice (some ⟨ab, ao + a, none⟩) m (C - a)] wr fun e w2 => e = .returned (.tuple #[]) ∧ Finds4 ps all (a + m) w1.heap.size w w0 (.int .i64 c) w2 := by
            intro m _ ham _
            have hr := HALL.out wr hk3
            have hN := HN.out
            have hr' := hr
            obtain ⟨_, ⟨_, _, h0, _⟩ | ⟨ab, ao, cap, hv, _, hnC, hCm, hcell⟩⟩ := hr'
            · omega
            simp only [Value.slice.injEq, true_and] at hv
            obtain ⟨rfl, rfl⟩ := hv
            refine ⟨ab, ao, rfl, hnC, hCm, ?_⟩
            have hr2 := hr
            rw [hN] at hr2
            have hwin := Rd.win hr2 a m (C - a) (by omega) (by omega) (by omega)
            refine (feed_any _ _ _ _ _ _ _ hst hwin (by omega)).mono ?_
            rintro e w2 ⟨rfl, blk4, st4, fr4, kp4⟩
            refine ⟨rfl, c, blk4, _, hc, rfl, st4, ?_, ?_, ?_, ?_, ?_⟩
            · have e1 : all.take (a + m) = all.take a ++ (all.drop a).take m := by rw [List.take_add]
              rw [e1, Fr.frames_append, hfr]
            · rw [List.length_append]
              have := List.length_take_le m (all.drop a)
              have := List.length_drop (i := a) (l := all)
              omega
            · rcases fr4 with rfl | ⟨b', rfl, hle⟩
              · exact hb3
              · intro b hb
                obtain rfl := Option.some.inj hb
                have := hst.lt; omega
            · exact hk3.trans (kp4.mono (T := fun i => w1.heap.size ≤ i) fun i _ h => by
                rcases h with h | h
                · omega
                · have := hb3 i h; omega) fun _ _ h => h
            · exact hbel3.trans (kp4.belowB hbel3.size fun i hi h => by
                rcases h with h | h
                · omega
                · have := hb3 i h; omega)
          have FED' := Lib.hid FED
          have HI := Lib.hid hi
          have HC := Lib.hid hc
          have hip : i ≤ pt.length := by
            rcases hi with h | h
            · exact h
            · have := HN.out; omega
          have HBE := Lib.hid hbel3
          clear FED hst hfr hMl hb3 hk3 hbel3 hi hc
          obtain ⟨r, hr⟩ : ∃ r, r = n - a := ⟨_, rfl⟩
          have e1 : (n : Int) - (a : Int) = (r : Int) := by omega
          have THREE : (∃ (m x tb to : Nat), m ≤ r ∧ (1 ≤ m ∨ i < pt.length) ∧ (m < r → i < pt.length) ∧ i < pt.length ∧ (a3 = some ⟨tb, to, none⟩ ∧ wr.cell? ⟨tb, to + i, none⟩ = some (.int .u8 (x : Int)) ∧ tb < wr.heap.size ∧ (x : Int) < 256) ∧ (x : Int) < (r : Int) ∧ m = x) ∨
              (∃ (m x tb to : Nat), m ≤ r ∧ (1 ≤ m ∨ i < pt.length) ∧ (m < r → i < pt.length) ∧ i < pt.length ∧ (a3 = some ⟨tb, to, none⟩ ∧ wr.cell? ⟨tb, to + i, none⟩ = some (.int .u8 (x : Int)) ∧ tb < wr.heap.size ∧ (x : Int) < 256) ∧ ¬ (x : Int) < (r : Int) ∧ m = r) ∨
              (∃ (m x tb to : Nat), m ≤ r ∧ (1 ≤ m ∨ i < pt.length) ∧ (m < r → i < pt.length) ∧ ¬ i < pt.length ∧ (True ∧ True ∧ True ∧ True) ∧ True ∧ m = r) := by
            by_cases q1 : i < pt.length
            · obtain ⟨tb, to, ha3, hc0, htb, _⟩ := H3.out.byte i q1
              have hlt := (pt.getD i 0).toNat_lt
              generalize (pt.getD i 0).toNat = x at hc0 hlt
              have hcell : wr.cell? ⟨tb, to + i, none⟩ = some (.int .u8 (x : Int)) := by rw [HBE.out.cell (p := ⟨tb, to + i, none⟩) htb]; exact hc0
              have htw : tb < wr.heap.size := Nat.lt_of_lt_of_le htb HBE.out.size
              by_cases q2 : x < r
              · exact .inl ⟨x, x, tb, to, by omega, .inr q1, fun _ => q1, q1, ⟨ha3, hcell, htw, by omega⟩, by omega, rfl⟩
              · exact .inr (.inl ⟨r, x, tb, to, by omega, .inr q1, fun _ => q1, q1, ⟨ha3, hcell, htw, by omega⟩, by omega, rfl⟩)
            · exact .inr (.inr ⟨r, 0, 0, 0, by omega, .inl (by omega), fun h => by omega, q1, ⟨trivial, trivial, trivial, trivial⟩, trivial, rfl⟩)
          rcases THREE with ⟨m, x, tb, to, m1, m2, m3, q1, ⟨ha3, cx, htb, hx256⟩, q2, q3⟩ | ⟨m, x, tb, to, m1, m2, m3, q1, ⟨ha3, cx, htb, hx256⟩, q2, q3⟩ | ⟨m, x, tb, to, m1, m2, m3, q1, ⟨ha3, cx, htb, hx256⟩, q2, q3⟩
          all_goals
            obtain ⟨ab, ao, hA, hnC, hCm, CF⟩ := FED'.out m m2 (by omega) (fun h => m3 (by omega))
            subst hA
            have CF' := Lib.hid CF
            clear CF
            try subst ha3
            subst q3
            have j1 : (0 : Int) ≤ (a : Int) := by omega
            have j4 : (a : Int) < (n : Int) := by omega
            have j5 : (i : Int) < 9223372036854775807 := by omega
            have j6 : (0 : Int) ≤ (i : Int) := by omega
            have hCa : ¬ C = a := by omega
            have HCm := Lib.hid hCm
            have HR := Lib.hid hr
            have M2 := Lib.hid m2
            have M3 := Lib.hid m3
            clear hCm hr m2 m3
          all_goals
            have j2 : (a : Int) ≤ (a : Int) + (m : Int) := by omega
            have j3 : (a : Int) + (m : Int) ≤ (C : Int) := by have := HR.out; omega
            first
              | (have q1' : (i : Int) < (pt.length : Int) := by omega)
              | (have q1' : ¬ (i : Int) < (pt.length : Int) := by omega)
            go_wp2_with (first | (go_at_call 18; (with_reducible refine CF'.out.mono ?_); rintro e w2 ⟨rfl, h4⟩; have REL4 := Lib.hid h4; clear h4 cx) | fail)
            go_loopw [12] (fun gv wq => Finds4 ps all (a + m) w1.heap.size w w0 gv wq) (fun _ wq => waits w1.heap.size wq)
            case atStart => exact REL4.out
            case round =>
              obtain ⟨c', blk5, X, hc', rfl, hst, hfr, hX, hb5, hk5, hbel5⟩ := hrel
              rcases hx : (Fr.next X).1 with _ | p
              · have CN : Calls Try.prog 20 #[.pointer (some ⟨w1.heap.size, 0, none⟩)] wr fun e w6 => e = .returned (.tuple #[.slice none 0 0, .bool false]) ∧ Finds3 ps all pt.length w1.heap.size w w0 (.int .i64 ((a : Int) + (m : Int))) (.int .i64 c') (.int .i64 ((i : Int) + 1)) w6 := by
                  refine (next_any _ _ _ _ hst (by have := HN.out; omega)).mono ?_
                  rintro e w6 ⟨⟨blk6, st6, hb6⟩, kp6, h⟩
                  rw [hx] at h
                  rcases h with ⟨_, rfl⟩ | ⟨q, _, _, hq, _⟩
                  · have hfX := Fr.next_none X hx
                    rw [hfX, List.append_nil] at hfr
                    have hMl : (Fr.next X).2.length ≤ all.length := by
                      have h1 := frames_rest _ (all.take (a + m)) (Nat.le_refl _)
                      rw [hfr] at h1
                      have := List.length_take_le (a + m) all
                      have := List.length_take_le' (a + m) all
                      simp only at h1; omega
                    refine ⟨rfl, a + m, c', i + 1, blk6, _, by have := HN.out; have := HR.out; omega, hc', by simp, rfl, by simp, ?_, st6, hfr, hMl, ?_, ?_, ?_⟩
                    · by_cases h : i < pt.length
                      · exact .inl (by omega)
                      · refine .inr ⟨?_, by omega⟩
                        have h1 := HN.out; have h2 := HR.out; have h3 := M3.out
                        by_cases h4 : m = n - a
                        · omega
                        · exact absurd (h3 (by omega)) h
                    · intro b hb
                      rcases hb6 with rfl | rfl
                      · exact hb5 b hb
                      · cases hb
                    · exact hk5.trans (kp6.mono (T := fun i => w1.heap.size ≤ i) fun i _ h => by omega) fun _ _ h => h
                    · exact hbel5.trans (kp6.belowB hbel5.size fun i hi h => by omega)
                  · cases hq
                have CN' := Lib.hid CN
                clear CN hst hfr hX hb5 hk5 hbel5 hx
                go_wp2_with (first | (go_at_call 20; (with_reducible refine CN'.out.mono ?_); rintro e w6 ⟨rfl, h6⟩; have H6 := Lib.hid h6; clear h6) | fail)
                exact ⟨H6.out, by have := M2.out; have := HR.out; simp [intOf]; omega⟩
              · obtain ⟨t, ht⟩ := HPREF.out (a + m)
                have hsome := Fr.next_some X p hx
                rw [hfr, hsome] at ht
                have hcp : c' < ps.length ∧ ps.getD c' [] = p ∧ ps.take (c' + 1) = ps.take c' ++ [p] := by
                  have hl : (ps.take c').length = c' := by rw [List.length_take]; omega
                  have hg : ps[c']? = some p := by
                    rw [ht, List.append_assoc, List.getElem?_append_right (by omega), hl]; simp
                  obtain ⟨hlt', hgp⟩ := List.getElem?_eq_some_iff.1 hg
                  exact ⟨hlt', by rw [List.getD_eq_getElem?_getD, hg]; rfl, by rw [List.take_succ_eq_append_getElem hlt', hgp]⟩
                obtain ⟨s, t', hX2, _, _, hXt⟩ := Fr.next_stood X p hx
                have hXl : (Fr.next X).2.length < X.length := by
                  have := congrArg List.length hX2
                  rw [List.length_append, List.length_append, Fr.frameOf_length] at this
                  rw [hXt]; omega
                obtain ⟨pb, po, Ar, Cr, ha1, _, hc0, hr0, hpl⟩ := H1.out.at_ c' hcp.1
                rw [hcp.2.1] at hc0 hr0
                have hw0 : waits w1.heap.size wr = X.length := by
                  obtain ⟨v, T, hg, hs, _⟩ := hst
                  obtain ⟨Aq, Cq, rfl⟩ := hs.rd.len
                  unfold waits
                  rw [cell_of_row _ _ _ _ _ _ hg]; rfl
                have CN : Calls Try.prog 20 #[.pointer (some ⟨w1.heap.size, 0, none⟩)] wr fun e w6 => ∃ Av Cv, e = .returned (.tuple #[.slice Av p.length Cv, .bool true]) ∧ Rd w6 1 (.slice Av p.length Cv) p.length (bvals p) ∧ Rd w6 1 (.slice Ar p.length Cr) p.length (bvals p) ∧ w6.cell? ⟨pb, po + c', none⟩ = some (.slice Ar p.length Cr) ∧
                    Finds4 ps all (a + m) w1.heap.size w w0 (.int .i64 ((c' : Int) + 1)) w6 ∧ waits w1.heap.size w6 < waits w1.heap.size wr := by
                  refine (next_any _ _ _ _ hst (by have := HN.out; omega)).mono ?_
                  rintro e w6 ⟨⟨blk6, st6, hb6⟩, kp6, h⟩
                  rw [hx] at h
                  rcases h with ⟨h, _⟩ | ⟨q, v, pb6, hq, rfl, hsv, _⟩
                  · cases h
                  · obtain rfl := Option.some.inj hq
                    obtain ⟨Av, Cv, rfl⟩ := hsv.rd.len
                    have hB6 := hbel5.trans (kp6.belowB hbel5.size fun i hi h => by omega)
                    refine ⟨Av, Cv, rfl, hsv.rd, hr0.below hB6, by rw [hB6.cell (p := ⟨pb, po + c', none⟩) hpl]; exact hc0, ⟨c' + 1, blk6, _, by omega, by simp, st6, ?_, by omega, ?_, hk5.trans (kp6.mono (T := fun i => w1.heap.size ≤ i) fun i _ h => by omega) fun _ _ h => h, hB6⟩, ?_⟩
                    · rw [hfr, hsome, hcp.2.2]; simp
                    · intro b hb
                      rcases hb6 with rfl | rfl
                      · exact hb5 b hb
                      · cases hb
                    · rw [hw0]
                      obtain ⟨v, T, hg, hs, _⟩ := st6
                      obtain ⟨Aq, Cq, rfl⟩ := hs.rd.len
                      unfold waits
                      rw [cell_of_row _ _ _ _ _ _ hg]; exact hXl
                have CN' := Lib.hid CN
                have k1 : ¬ (ps.length : Int) ≤ (c' : Int) := by omega
                have k1' : decide (ps.length ≤ c') = false := by rw [decide_eq_false_iff_not]; omega
                have k2 : (c' : Int) < (ps.length : Int) := by omega
                have k3 : (0 : Int) ≤ (c' : Int) := by omega
                have k4 : (c' : Int) < 9223372036854775807 := by have := HM.out; omega
                subst ha1
                clear CN hst hfr hX hb5 hk5 hbel5 hx ht hsome hcp hX2 hXt hXl hc0 hr0 hw0 i1
                go_wp2_with (first | (go_at_call 20; (with_reducible refine CN'.out.mono ?_); rintro e w6 ⟨Av6, Cv6, rfl, rd6, rq6, cq6, hin6, hw6⟩; have HIN := Lib.hid hin6; have HW6 := Lib.hid hw6; clear hin6 hw6) | fail)
                have cvA : ∀ nq, (convert 22 9 (.slice Av6 p.length Cv6)).run Try.prog (w6.drewN nq) = .ok (.string (str p)) (w6.drewN nq) := fun nq => conv_str (rd6.below (below_drewN' (Below.refl _ _) nq))
                have cvB : ∀ nq, (convert 22 9 (.slice Ar p.length Cr)).run Try.prog (w6.drewN nq) = .ok (.string (str p)) (w6.drewN nq) := fun nq => conv_str (rq6.below (below_drewN' (Below.refl _ _) nq))
                clear rd6 rq6
                go_quiet (fail)
                go_wp2_with fail
                exact ⟨HIN.out.drewN _, HW6.out⟩
        · have hfin : a = n ∧ c = ps.length ∧ M = [] := by
            have h1 := HN.out
            obtain rfl : a = all.length := by omega
            rw [List.take_of_length_le (Nat.le_refl _), HF.out] at hfr
            injection hfr with h2 h3
            refine ⟨h1.symm, ?_, h3.symm⟩
            have := congrArg List.length h2
            rw [List.length_take] at this; omega
          obtain ⟨rfl, rfl, rfl⟩ := hfin
          have CH : ∀ W, Below wr.heap.size wr W → Calls Try.prog 21 #[.pointer (some ⟨w1.heap.size, 0, none⟩)] W fun e w' => e = .returned (.int .i64 0) ∧ w' = W := fun W hW => held_any _ _ _ _ (hst.below hW)
          have CH' := Lib.hid CH
          clear CH hst hfr hMl hb3 hk3 i1
          have j1 : ¬ (a : Int) < (a : Int) := by omega
          go_wp2_with (first | (go_at_call 15; refine (answers03 _).mono ?_; rintro e w3 ⟨rfl, hb3⟩) | (go_at_call 21; refine (CH'.out _ hb3).mono ?_; rintro e w7 ⟨rfl, h7⟩; rw [h7]; clear h7 w7) | fail)
          go_ret
          exact ⟨rfl, hbel3.trans (hb3.mono hbel3.size)⟩
end Go.Proofs.Ytclgnginmgleaaa
