/-
  The walk of the reference's Frames.
-/
import Derived.Test.YtclgnginmgleaaaFrameLaws
import Derived.Deep.RegionHeldLaw
namespace Go.Proofs.Ytclgnginmgleaaa
open Go Go.RowKit Go.Sort

/-- An equation that 'contradiction' is not to open. -/
theorem tt {p : Prop} (h : p) : p ∧ True := ⟨h, trivial⟩
/-- How the reference tells a frame. -/
theorem look_ref (c : UInt8) (q : List UInt8) (hk : Fr.okCount c = true) (hq : c.toNat + 4 ≤ q.length) :
    (Fr.frameOf (q.take c.toNat) = (165 :: c :: q).take (c.toNat + 6)) ↔ (Fr.sum4 (165 :: c :: q.take c.toNat) = (q.drop c.toNat).take 4) := by
  have hl : (q.take c.toNat).length = c.toNat := by rw [List.length_take]; omega
  have hh : Fr.headed (q.take c.toNat) = 165 :: c :: q.take c.toNat := by
    unfold Fr.headed
    rw [hl, UInt8.ofNat_toNat]
  have ht : (165 :: c :: q).take (c.toNat + 6) = (165 :: c :: q.take c.toNat) ++ (q.drop c.toNat).take 4 := by
    rw [show c.toNat + 6 = (c.toNat + 4) + 1 + 1 by omega, List.take_succ_cons, List.take_succ_cons, List.cons_append, List.cons_append, List.take_add]
  unfold Fr.frameOf
  rw [hh, ht]
  exact List.append_right_inj _

/-- A slice of slices of bytes that is read. -/
def RdRows (w : World) (v : Value) (ps : List (List UInt8)) (vals : List Value) : Prop :=
  vals.length = ps.length ∧ Rd w 1 v ps.length vals ∧ ∀ (i : Nat) (p : List UInt8), ps[i]? = some p → ∃ u, vals[i]? = some u ∧ Rd w 1 u p.length (bvals p)
/-- .. that is one's own. -/
def SlRows (base : Nat) (w : World) (v : Value) (blk : Option Nat) (ps : List (List UInt8)) (vals : List Value) : Prop :=
  vals.length = ps.length ∧ Sl w 1 v blk ps.length vals ∧ (∀ u ∈ vals, u.oneCell' = true) ∧ ∀ (i : Nat) (p : List UInt8), ps[i]? = some p → ∃ u pb, vals[i]? = some u ∧ Sl w 1 u pb p.length (bvals p) ∧ ∀ b, pb = some b → blk ≠ some b ∧ base ≤ b

theorem SlRows.nil (base : Nat) (w : World) : SlRows base w (.slice none 0 0) none [] [] := ⟨rfl, Sl.nil _ _, fun u hu => by simp at hu, fun i p h => by simp at h⟩
theorem SlRows.below {base : Nat} {w w' : World} {v : Value} {blk : Option Nat} {ps : List (List UInt8)} {vals : List Value} (h : SlRows base w v blk ps vals) (hb : Below w.heap.size w w') : SlRows base w' v blk ps vals :=
  ⟨h.1, h.2.1.below hb Nat.zero_lt_one, h.2.2.1, fun i p hp => let ⟨u, pb, h1, h2, h3⟩ := h.2.2.2 i p hp; ⟨u, pb, h1, h2.below hb Nat.zero_lt_one, h3⟩⟩
theorem SlRows.rd {base : Nat} {w : World} {v : Value} {blk : Option Nat} {ps : List (List UInt8)} {vals : List Value} (h : SlRows base w v blk ps vals) : RdRows w v ps vals :=
  ⟨h.1, h.2.1.rd, fun i p hp => let ⟨u, _, h1, h2, _⟩ := h.2.2.2 i p hp; ⟨u, h1, h2.rd⟩⟩
theorem SlRows.push {base : Nat} {w4 w5 : World} {v v1 v5 : Value} {blk pb blk5 : Option Nat} {outs : List (List UInt8)} {vals : List Value} {p : List UInt8} (h : SlRows base w4 v blk outs vals) (k : Kept (fun i => blk = some i) w4 w5)
    (h5 : Sl w5 1 v5 blk5 (outs.length + 1) (vals ++ [v1])) (hb : blk5 = blk ∨ ∃ b, blk5 = some b ∧ w4.heap.size ≤ b) (hp : Sl w4 1 v1 pb p.length (bvals p)) (hpb : ∀ b, pb = some b → blk ≠ some b ∧ base ≤ b) (h1 : v1.oneCell' = true) : SlRows base w5 v5 blk5 (outs ++ [p]) (vals ++ [v1]) := by
  obtain ⟨hl, hs, ho, hr⟩ := h
  have hne : ∀ (u : Value) (qb : Option Nat) (q : List UInt8), Sl w4 1 u qb q.length (bvals q) → (∀ b, qb = some b → blk ≠ some b ∧ base ≤ b) → Sl w5 1 u qb q.length (bvals q) ∧ ∀ b, qb = some b → blk5 ≠ some b ∧ base ≤ b := by
    intro u qb q hq hqb
    refine ⟨hq.kept k Nat.zero_lt_one (fun b hb => (hqb b hb).1), fun b hbb => ?_⟩
    subst hbb
    refine ⟨?_, (hqb b rfl).2⟩
    rcases hb with rfl | ⟨b', rfl, hle⟩
    · exact (hqb b rfl).1
    · intro e
      obtain rfl := Option.some.inj e
      have := hq.lt Nat.zero_lt_one
      omega
  refine ⟨by simp [hl], by rw [List.length_append]; exact h5, fun u hu => ?_, fun i q hq => ?_⟩
  · rcases List.mem_append.1 hu with hu | hu
    · exact ho u hu
    · simp only [List.mem_singleton] at hu; subst hu; exact h1
  · by_cases hi : i < outs.length
    · rw [List.getElem?_append_left hi] at hq
      obtain ⟨u, qb, e1, e2, e3⟩ := hr i q hq
      exact ⟨u, qb, by rw [List.getElem?_append_left (by omega)]; exact e1, hne u qb q e2 e3⟩
    · rw [List.getElem?_append_right (by omega)] at hq
      have hi0 : i - outs.length = 0 := by
        rcases Nat.eq_zero_or_pos (i - outs.length) with h | h
        · exact h
        · rw [List.getElem?_eq_none (by simp; omega)] at hq; cases hq
      rw [hi0] at hq
      obtain rfl : p = q := by simpa using hq
      exact ⟨v1, pb, by rw [List.getElem?_append_right (by omega), hl, hi0]; rfl, hne v1 pb p hp hpb⟩
theorem SlRows.kept {base : Nat} {w w' : World} {v : Value} {blk : Option Nat} {ps : List (List UInt8)} {vals : List Value} {S : Nat → Prop} (h : SlRows base w v blk ps vals) (k : Kept S w w') (hb : ∀ b, blk = some b → ¬ S b) (hs : ∀ b, base ≤ b → ¬ S b) : SlRows base w' v blk ps vals :=
  ⟨h.1, h.2.1.kept k Nat.zero_lt_one hb, h.2.2.1, fun i p hp => let ⟨u, pb, h1, h2, h3⟩ := h.2.2.2 i p hp; ⟨u, pb, h1, h2.kept k Nat.zero_lt_one (fun b e => hs b (h3 b e).2), h3⟩⟩
theorem RdRows.below {w w' : World} {v : Value} {ps : List (List UInt8)} {vals : List Value} (h : RdRows w v ps vals) (hb : Below w.heap.size w w') : RdRows w' v ps vals :=
  ⟨h.1, h.2.1.below hb, fun i p hp => let ⟨u, h1, h2⟩ := h.2.2 i p hp; ⟨u, h1, h2.below hb⟩⟩

theorem under37 : Try.prog.underlying 37 = some (.slice 22) := by kernel_rfl
theorem info22 : (Try.prog.info? 22).map (fun i => (i.zero, i.size, i.bytes)) = some (some (.slice none 0 0), 1, 24) := by kernel_rfl

theorem Rd.rest {w : World} {b off c k : Nat} {l : List UInt8} (h : Rd w 1 (.slice (some ⟨b, off, none⟩) l.length c) l.length (bvals l)) (hk : k ≤ l.length) (hc : l.length ≤ c) (hm : c ≤ maxLen) :
    Rd w 1 (.slice (if c = k then some ⟨b, off, none⟩ else some ⟨b, off + k, none⟩) (l.length - k) (c - k)) (l.drop k).length (bvals (l.drop k)) := by
  by_cases hck : c = k
  · have hn : l.length = k := by omega
    exact ⟨by simp [bvals], .inl ⟨some ⟨b, off, none⟩, c - k, by simp; omega, by rw [if_pos hck, hn, Nat.sub_self]⟩⟩
  · rw [if_neg hck]
    have := h.win k (l.length - k) (c - k) (by omega) (by omega) (by omega)
    rw [List.take_of_length_le (by simp)] at this
    rwa [List.length_drop]

def lenOf (v : Value) : Nat := match v with
  | .slice _ n _ => n
  | _ => 0

def FramesPost (a : Option Addr) (c : Nat) (l : List UInt8) (w : World) (e : Ending) (w' : World) : Prop :=
  Below w.heap.size w w' ∧ ∃ vo vr blk vals, e = .returned (.tuple #[vo, vr]) ∧ SlRows w.heap.size w' vo blk (Fr.frames l).1 vals ∧ (∀ b, blk = some b → w.heap.size ≤ b) ∧
    ∀ W : World, Rd W 1 (.slice a l.length c) l.length (bvals l) → Rd W 1 vr (Fr.frames l).2.length (bvals (Fr.frames l).2)
def FramesRel (a : Option Addr) (c : Nat) (l : List UInt8) (w : World) (b0 out : Value) (wr : World) : Prop :=
  ∃ (A : Option Addr) (c' : Nat) (lr : List UInt8) (outs : List (List UInt8)) (blk : Option Nat) (vals : List Value),
    b0 = .slice A lr.length c' ∧ (∀ W : World, Rd W 1 (.slice a l.length c) l.length (bvals l) → Rd W 1 b0 lr.length (bvals lr)) ∧ SlRows w.heap.size wr out blk outs vals ∧ (∀ b, blk = some b → w.heap.size ≤ b) ∧
    Fr.frames l = (outs ++ (Fr.frames lr).1, (Fr.frames lr).2) ∧ lr.length + outs.length ≤ l.length ∧ Below w.heap.size w wr

set_option maxRecDepth 100000 in
set_option maxHeartbeats 6000000 in
theorem refFrames_any (a : Option Addr) (c : Nat) (l : List UInt8) (w : World) (h : Rd w 1 (.slice a l.length c) l.length (bvals l)) (hm : l.length ≤ 100000) :
    Calls Try.prog 19 #[.slice a l.length c] w fun e w' => FramesPost a c l w e w' := by
  go_enter Try.func19, Try.ntmps19
  go_wp2_with fail
  go_loopw [0, 4] (fun b0 out wr => FramesRel a c l w b0 out wr) (fun b0 _ _ => lenOf b0)
  case atStart => exact ⟨a, c, l, [], none, [], rfl, fun _ h => h, SlRows.nil _ _, fun b hb => (by cases hb), by simp, by simp, Below.refl _ _⟩
  case round =>
    obtain ⟨A, c', lr, outs, blk, vals, rfl, hrdW, hsl, hfr, heq, hlen, hbel⟩ := hrel
    have hrdw := hrdW w h
    have hrd := hrdw.below hbel
    have HRDW := Lib.hid hrdW
    clear hrdW
    obtain ⟨Ao, co, rfl⟩ := hsl.2.1.rd.len
    rcases lr with _ | ⟨m, r⟩
    · have e0 : Fr.frames [] = ([], []) := rfl
      rw [e0, List.append_nil] at heq
      have HEQ := Lib.hid heq
      have HSL := Lib.hid hsl
      clear heq hsl e0
      go_wp2_with fail
      go_ret2
      unfold FramesPost
      rw [HEQ.out]
      exact ⟨hbel, _, _, blk, vals, rfl, HSL.out, hfr, fun W _ => (Sl.nil W _).rd⟩
    · have hrd0 := hrd
      obtain ⟨hL0, ⟨_, _, h0, _⟩ | ⟨b, off, cap, hv, hn, hle, hcm, hc⟩⟩ := hrd0
      · simp at h0
      clear hL0
      simp only [Value.slice.injEq, true_and] at hv
      obtain ⟨rfl, rfl⟩ := hv
      have c0 : wr.cell? ⟨b, off, none⟩ = some (.int .u8 (m.toNat : Int)) := hc 0 _ (bvals_get _ 0 (by simp))
      have hq4 : 0 < r.length + 1 := by omega
      have hlr : (m :: r).length = r.length + 1 := rfl
      -- one byte is passed over
      have skip1 : ∀ W, Below wr.heap.size wr W → Fr.look (m :: r) = (1, none) → (∀ v, v = Value.slice (if c' = 1 then some ⟨b, off, none⟩ else some ⟨b, off + 1, none⟩) ((m :: r).length - 1) (c' - 1) → FramesRel a c l w v (.slice Ao outs.length co) W ∧ lenOf v < (m :: r).length) := by
        intro W hW hlk v hv
        subst hv
        refine ⟨⟨if c' = 1 then some ⟨b, off, none⟩ else some ⟨b, off + 1, none⟩, c' - 1, r, outs, blk, vals, rfl, fun W2 h2 => Rd.rest (HRDW.out W2 h2) (by simp) hle hcm, hsl.below hW, hfr, ?_, ?_, ?_⟩, ?_⟩
        · rw [heq, Fr.frames_skip _ 1 hlk (by omega)]; rfl
        · simp only [List.length_cons] at hlen; omega
        · exact hbel.trans (hW.mono hbel.size)
        · simp [lenOf]
      have SKIP := Lib.hid skip1
      clear skip1
      by_cases h165 : m = 165
      · subst h165
        rw [show (((165 : UInt8).toNat : Int)) = 165 from rfl] at c0
        rcases r with _ | ⟨cc, q⟩
        · have hF1 : Fr.frames [165] = ([], [165]) := Fr.frames_more _ rfl
          rw [hF1, List.append_nil] at heq
          have HP := Lib.hid (show FramesPost a c l w (.returned (.tuple #[.slice Ao outs.length co, .slice (some ⟨b, off, none⟩) 1 c'])) wr from by
            unfold FramesPost
            rw [heq]
            exact ⟨hbel, _, _, blk, vals, rfl, hsl, hfr, HRDW.out⟩)
          clear hc hrd hsl heq hlen hbel hfr SKIP hF1 hlr
          rw [show ([165] : List UInt8).length = 1 from rfl] at *
          go_wp2_with fail
          go_ret2
          exact HP.out
        · have c1 : wr.cell? ⟨b, off + 1, none⟩ = some (.int .u8 (cc.toNat : Int)) := hc 1 _ (bvals_get _ 1 (by simp))
          have hlen2 : (165 :: cc :: q).length = q.length + 2 := rfl
          clear hlr
          have hlook : Fr.look (165 :: cc :: q) = if Fr.okCount cc = false then (1, none) else if q.length < cc.toNat + 4 then (0, none) else if Fr.sum4 (165 :: cc :: q.take cc.toNat) = (q.drop cc.toNat).take 4 then (cc.toNat + 6, some (q.take cc.toNat)) else (1, none) := rfl
          have hok : Fr.okCount cc = (decide (1 ≤ cc.toNat) && decide (cc.toNat ≤ 64)) := rfl
          by_cases hk : Fr.okCount cc = false
          · rw [if_pos hk] at hlook
            have HF := Lib.hid (fun v hv => SKIP.out wr (Below.refl _ _) hlook v hv)
            rw [hok] at hk
            have hn1 : (1 : Int) ≤ ((q.length + 2 : Nat) : Int) := by omega
            have hn0 : 0 < q.length + 2 := by omega
            have hn2 : (1 : Int) < ((q.length + 2 : Nat) : Int) := by omega
            have hc1 : ¬ c' = 1 := by rw [hlen2] at hle; omega
            have hcc := cc.toNat_lt
            clear hc hrd hsl heq hlen hbel hfr SKIP hlook hok
            rw [hlen2] at *
            clear hlen2
            generalize q.length + 2 = n at *
            generalize cc.toNat = cn at *
            by_cases k1 : cn < 1
            · have k1' : (cn : Int) < 1 := by omega
              go_wp2_with fail
              exact HF.out _ (by rw [if_neg hc1])
            · have k1' : ¬ (cn : Int) < 1 := by omega
              have k2 : (64 : Int) < (cn : Int) := by
                simp only [Bool.and_eq_false_iff, decide_eq_false_iff_not] at hk
                omega
              go_wp2_with fail
              exact HF.out _ (by rw [if_neg hc1])
          · rw [if_neg hk] at hlook
            have hk2 : 1 ≤ cc.toNat ∧ cc.toNat ≤ 64 := by
              have : Fr.okCount cc = true := by simpa using hk
              rw [hok] at this; simpa using this
            by_cases hq : q.length < cc.toNat + 4
            · rw [if_pos hq] at hlook
              have hF1 : Fr.frames (165 :: cc :: q) = ([], 165 :: cc :: q) := Fr.frames_more _ (by rw [hlook])
              rw [hF1, List.append_nil] at heq
              have HP := Lib.hid (show FramesPost a c l w (.returned (.tuple #[.slice Ao outs.length co, .slice (some ⟨b, off, none⟩) (165 :: cc :: q).length c'])) wr from by
                unfold FramesPost
                rw [heq]
                exact ⟨hbel, _, _, blk, vals, rfl, hsl, hfr, HRDW.out⟩)
              have hn0 : 0 < q.length + 2 := by omega
              have hn2 : (1 : Int) < ((q.length + 2 : Nat) : Int) := by omega
              have hn3 : ¬ ((q.length + 2 : Nat) : Int) < 2 := by omega
              have hn4 : ((q.length + 2 : Nat) : Int) < (cc.toNat : Int) + 6 := by omega
              have k1 : ¬ (cc.toNat : Int) < 1 := by omega
              have k2 : ¬ (64 : Int) < (cc.toNat : Int) := by omega
              have hcc : (cc.toNat : Int) < 256 := by omega
              clear hc hrd hsl heq hlen hbel hfr SKIP hlook hok hF1 hk
              rw [hlen2] at *
              clear hlen2 hq hk2
              generalize q.length + 2 = n at *
              generalize cc.toNat = cn at *
              go_wp2_with fail
              go_ret2
              exact HP.out
            · rw [if_neg hq] at hlook
              have hd := hrd.below (below_drew wr)
              have hnc : q.length + 2 ≤ c' := by rw [hlen2] at hle; exact hle
              generalize hcn : cc.toNat = cn at *
              obtain ⟨E, hE⟩ : ∃ E : Nat, E = 2 + cn := ⟨_, rfl⟩
              obtain ⟨F, hF⟩ : ∃ F : Nat, F = cn + 6 := ⟨_, rfl⟩
              have hql : (q.take cn).length = cn := by rw [List.length_take]; omega
              -- the payload's window, the frame's window
              have r1 : Rd wr 1 (.slice (some ⟨b, off + 2, none⟩) (E - 2) (c' - 2)) (q.take cn).length (bvals (q.take cn)) := by
                have := Rd.win hrd 2 cn (c' - 2) (by rw [hlen2]; omega) (by omega) (by omega)
                rw [hql, show E - 2 = cn by omega]; exact this
              have r2 : Rd wr 1 (.slice (some ⟨b, off, none⟩) F c') F (bvals ((165 :: cc :: q).take F)) := by
                have := Rd.win hrd 0 F c' (by rw [hlen2]; omega) (by omega) hcm
                rwa [List.drop_zero] at this
              have hfc : ∀ W, Below wr.heap.size wr W → Calls Try.prog 17 #[.slice (some ⟨b, off + 2, none⟩) (E - 2) (c' - 2)] W fun e w' => Below W.heap.size W w' ∧ ∃ A' C', e = .returned (.slice A' F C') ∧ Rd w' 1 (.slice A' F C') F (bvals (Fr.frameOf (q.take cn))) := by
                intro W hW
                have hE2 : E - 2 = (q.take cn).length := by rw [hql]; omega
                rw [hE2]
                have r1' := r1
                rw [hE2] at r1'
                refine (refFrame_any _ _ _ _ (r1'.below hW) (by rw [hql]; exact hk2.2)).mono ?_
                rintro e w' ⟨hb, v', blk', rfl, hs, _⟩
                rw [show (q.take cn).length + 6 = F by rw [hql, hF]] at hs
                obtain ⟨A', C', rfl⟩ := hs.rd.len
                exact ⟨hb, A', C', rfl, hs.rd⟩
              have HFC := Lib.hid hfc
              have hn0 : 0 < q.length + 2 := by omega
              have hn2 : (1 : Int) < ((q.length + 2 : Nat) : Int) := by omega
              have hn3 : ¬ ((q.length + 2 : Nat) : Int) < 2 := by omega
              have e1 : (2 : Int) + (cn : Int) = (E : Int) := by omega
              have e2 : (cn : Int) + (6 : Int) = (F : Int) := by omega
              have w12 : IntKind.i64.wrap (F : Int) = (F : Int) ∧ IntKind.i64.wrap (E : Int) = (E : Int) := by constructor <;> (simp [IntKind.wrap, IntKind.bits, IntKind.signed]; omega)
              have k1 : ¬ (cn : Int) < 1 := by omega
              have k2 : ¬ (64 : Int) < (cn : Int) := by omega
              have hcc : (cn : Int) < 256 := by omega
              have j1 : (2 : Int) ≤ (E : Int) := by omega
              have j2 : (E : Int) ≤ (c' : Int) := by omega
              have j3 : (0 : Int) ≤ (F : Int) := by omega
              have j4 : (F : Int) ≤ (c' : Int) := by omega
              have j5 : ¬ ((q.length + 2 : Nat) : Int) < (F : Int) := by omega
              have j6 : (F : Int) ≤ ((q.length + 2 : Nat) : Int) := by omega
              have j7 : (1 : Int) ≤ ((q.length + 2 : Nat) : Int) := by omega
              have hc1 : ¬ c' = 1 := by omega
              have hc2 : ¬ c' = 2 := by omega
              have hc0 : ¬ c' = 0 := by omega
              have hlr := look_ref cc q (by simpa using hk) (by rw [hcn]; omega)
              rw [hcn, ← hF] at hlr
              by_cases hEq : Fr.frameOf (q.take cn) = (165 :: cc :: q).take F
              · have hlook2 : Fr.look (165 :: cc :: q) = (F, some (q.take cn)) := by rw [hlook, if_pos (hlr.1 hEq), hF]
                have hs : ((str (Fr.frameOf (q.take cn))).toList == (str ((165 :: cc :: q).take F)).toList) = true ∧ True := by rw [hEq]; simp
                have fin : ∀ (w4 w5 : World) (v1 v5 : Value) (pb blk5 : Option Nat), Below wr.heap.size wr w4 → Kept (fun i => blk = some i) w4 w5 → Sl w5 1 v5 blk5 (outs.length + 1) (vals ++ [v1]) → (blk5 = blk ∨ ∃ b, blk5 = some b ∧ w4.heap.size ≤ b) → Sl w4 1 v1 pb (E - 2) (bvals (q.take cn)) → (∀ b, pb = some b → blk ≠ some b ∧ w.heap.size ≤ b) → v1.oneCell' = true →
                    ∀ v, v = Value.slice (if c' = F then some ⟨b, off, none⟩ else some ⟨b, off + F, none⟩) ((165 :: cc :: q).length - F) (c' - F) → FramesRel a c l w v v5 w5 ∧ lenOf v < (165 :: cc :: q).length := by
                  intro w4 w5 v1 v5 pb blk5 hb4 hk5 h5 hb5 hp hpb h1 v hv
                  subst hv
                  rw [show E - 2 = (q.take cn).length by rw [hql]; omega] at hp
                  have hB4 := hbel.trans (hb4.mono hbel.size)
                  have hB5 := Kept.toBelow hB4 hk5 hfr
                  have hdl : ((165 :: cc :: q).drop F).length = (165 :: cc :: q).length - F := List.length_drop
                  refine ⟨⟨if c' = F then some ⟨b, off, none⟩ else some ⟨b, off + F, none⟩, c' - F, (165 :: cc :: q).drop F, outs ++ [q.take cn], blk5, vals ++ [v1], by rw [hdl], fun W2 h2 => Rd.rest (HRDW.out W2 h2) (by rw [hlen2]; omega) hle hcm, (hsl.below hb4).push hk5 h5 hb5 hp hpb h1, fresh_next hfr hB4.size hb5, ?_, ?_, hB5⟩, ?_⟩
                  · rw [heq, Fr.frames_take _ _ _ hlook2]; simp
                  · rw [hdl, List.length_append]; simp only [List.length_cons, List.length_nil] at hlen ⊢; omega
                  · show (165 :: cc :: q).length - F < _
                    rw [hlen2]; omega
                have FIN := Lib.hid fin
                have R2 := Lib.hid r2
                have r1E : Rd wr 1 (.slice (some ⟨b, off + 2, none⟩) (E - 2) (c' - 2)) (E - 2) (bvals (q.take cn)) := by
                  have := r1
                  rw [show (q.take cn).length = E - 2 by rw [hql]; omega] at this
                  exact this
                have R1 := Lib.hid r1E
                have cv0 := tt (conv_str (r2.below (below_drew wr)))
                have BD1 := Lib.hid (show (3 * (0 + (E - 2)) + 1024) * (1 + 1) ≤ 281474976710656 by omega)
                have BD2 := Lib.hid (show (3 * (outs.length + 1) + 1024) * (24 + 1) ≤ 281474976710656 by omega)
                have HSL := Lib.hid hsl
                have HFR := Lib.hid hfr
                have HBEL := Lib.hid hbel
                clear hc hrd hrdw hsl heq hlen hbel hfr SKIP hlook hlook2 hk hd r1 r1E r2 hlr hfc hEq hk2 hql hq hE hF fin
                rw [hlen2] at *
                clear hlen2
                generalize q.length + 2 = n at *
                generalize Fr.frameOf (q.take cn) = X1 at *
                generalize (165 :: cc :: q).take F = X2 at *
                go_wp2_with fail
                go_region_held_law (fun _ => True) (trivial) (first | (go_at_call 17; refine (HFC.out _ (below_drew _)).mono ?_; rintro e w2 ⟨hb2, A2, C2, rfl, rd2⟩; have cv1 := tt (conv_str rd2); have cv2 := tt (conv_str ((R2.out.below (below_drew _)).below hb2))))
                all_goals
                  have hB2 := (below_drew wr).trans hb2
                  have hB3 : Below wr.heap.size wr (w2.alloc (.cells #[] 5)) := hB2.alloc hB2.size _
                  have sl0 := Sl.empty (w2.alloc (.cells #[] 5)) 1 (some ⟨w2.heap.size, 0, none⟩)
                  have sr1 := (R1.out.below hB3).srcB
                  clear cv1 cv2 rd2
                  have POST1 : ∀ (v1 : Value) (w3 : World) (pb : Option Nat), Sl w3 1 v1 pb (0 + (E - 2)) ([] ++ bvals (q.take cn)) → ((pb = none) ∨ ∃ b, pb = some b ∧ (w2.alloc (.cells #[] 5)).heap.size ≤ b) → Kept (fun k => (none : Option Nat) = some k) (w2.alloc (.cells #[] 5)) w3 →
                      (∃ Av Cv, v1 = .slice Av (E - 2) Cv) ∧ Below wr.heap.size wr w3 ∧ Sl w3 1 v1 pb (E - 2) (bvals (q.take cn)) ∧ (∀ b, pb = some b → wr.heap.size ≤ b) := by
                    intro v1 w3 pb sl1 fr1 kp1
                    rw [List.nil_append, Nat.zero_add] at sl1
                    exact ⟨sl1.rd.len, Kept.toBelow hB3 kp1 (fun b hb => by cases hb), sl1, fresh_next (fun b hb => by cases hb) hB3.size fr1⟩
                  have POST2 : ∀ (v1 : Value) (w3 : World) (pb : Option Nat), Below wr.heap.size wr w3 → Sl w3 1 v1 pb (E - 2) (bvals (q.take cn)) → v1.oneCell' = true →
                      Below wr.heap.size wr (w3.alloc (.cells #[v1] 22)) ∧ Sl (w3.alloc (.cells #[v1] 22)) 1 v1 pb (E - 2) (bvals (q.take cn)) ∧ Sl (w3.alloc (.cells #[v1] 22)) 1 (.slice Ao outs.length co) blk outs.length vals ∧
                      Src Try.prog 1 37 (.slice (some ⟨w3.heap.size, 0, none⟩) 1 1) 1 [v1] (w3.alloc (.cells #[v1] 22)) := by
                    intro v1 w3 pb hB4 sl1 h1
                    have hB5 : Below w3.heap.size w3 (w3.alloc (.cells #[v1] 22)) := (Below.refl _ _).alloc (Nat.le_refl _) _
                    exact ⟨hB4.trans (hB5.mono hB4.size), sl1.below hB5 Nat.zero_lt_one, ((HSL.out.below hB4).below hB5).2.1, (lit_sl (w := w3) (e := 22) [v1] 1 rfl (by omega) (by omega)).src (P := Try.prog) (by intro u hu; simp at hu; subst hu; exact h1) (tx := 37) (e' := 22) under37⟩
                  have POST3 : ∀ b, wr.heap.size ≤ b → blk ≠ some b ∧ w.heap.size ≤ b := fun b hb => ⟨fun e => by have h2 := HSL.out.2.1; subst e; have := h2.lt Nat.zero_lt_one; omega, by have := HBEL.out.size; omega⟩
                  have P1 := Lib.hid POST1
                  have P2 := Lib.hid POST2
                  have P3 := Lib.hid POST3
                  clear POST1 POST2 POST3 hB2 hB3 hb2
                  go_wp2_with (first | (at_builtin; (refine wpList_append_sl rfl _ _ 22 22 5 rfl under22 info5 rfl Nat.zero_lt_one rfl rfl sl0 sr1 BD1.out ?_); intro v1 w3 pb sl1 fr1 kp1; obtain ⟨⟨Av, Cv, rfl⟩, hB4, sl1', hpb⟩ := P1.out v1 w3 pb sl1 fr1 kp1; obtain ⟨hB5, SL1, slo, src2⟩ := P2.out _ w3 pb hB4 sl1' rfl; have HB5 := Lib.hid hB5; have HPB := Lib.hid hpb; have HSL1 := Lib.hid SL1; clear sl0 sr1 fr1 kp1 hB4 sl1 sl1' hpb SL1 hB5) | (at_builtin; (refine wpList_append_sl rfl _ _ 37 37 22 rfl under37 info22 rfl Nat.zero_lt_one rfl rfl slo src2 BD2.out ?_); intro v5 w5 blk5 sl5 fr5 kp5; have FF := Lib.hid (FIN.out _ w5 _ v5 pb blk5 HB5.out kp5 sl5 fr5 HSL1.out (fun b hb => P3.out b (HPB.out b hb)) rfl); clear slo src2 sl5 fr5 kp5) | fail)
                  exact FF.out _ rfl
              · have hlook1 : Fr.look (165 :: cc :: q) = (1, none) := by rw [hlook, if_neg (fun h => hEq (hlr.2 h))]
                have hs : ((str (Fr.frameOf (q.take cn))).toList == (str ((165 :: cc :: q).take F)).toList) = false ∧ True := by
                  refine ⟨?_, trivial⟩
                  rw [ByteArray.toList_eq, ByteArray.toList_eq, beq_eq_false_iff_ne]
                  intro h
                  apply hEq
                  simpa [str] using h
                have HF := Lib.hid (fun W hW v hv => SKIP.out W hW hlook1 v hv)
                have R2 := Lib.hid r2
                have cv0 := tt (conv_str (r2.below (below_drew wr)))
                clear hc hrd hsl heq hlen hbel hfr SKIP hlook hlook1 hk hd r1 r2 hlr hfc hEq hk2 hql hq hE hF
                rw [hlen2] at *
                clear hlen2
                generalize q.length + 2 = n at *
                generalize Fr.frameOf (q.take cn) = X1 at *
                generalize (165 :: cc :: q).take F = X2 at *
                go_wp2_with fail
                go_region_held_law (fun _ => True) (trivial) (first | (go_at_call 17; refine (HFC.out _ (below_drew _)).mono ?_; rintro e w2 ⟨hb2, A2, C2, rfl, rd2⟩; have cv1 := tt (conv_str rd2); have cv2 := tt (conv_str ((R2.out.below (below_drew _)).below hb2))))
                all_goals
                  go_wp2_with fail
                  exact HF.out _ ((below_drew wr).trans hb2) _ (by rw [if_neg hc1])
      · have hne : (((m.toNat : Int)) != 165) = true := by
          rw [bne_iff_ne]
          intro h; apply h165; apply UInt8.toNat_inj.1; exact Int.ofNat.inj h
        have hlook : Fr.look (m :: r) = (1, none) := by unfold Fr.look; simp [h165]
        have HF := Lib.hid (fun v hv => SKIP.out wr (Below.refl _ _) hlook v hv)
        clear hc hrd hsl heq hlen hbel hfr SKIP hlook
        have hle1 : r.length + 1 ≤ c' := by rw [hlr] at hle; exact hle
        rw [hlr] at *
        have hn1 : (1 : Int) ≤ ((r.length + 1 : Nat) : Int) := by omega
        generalize r.length + 1 = n at *
        by_cases hc1 : c' = 1
        · subst hc1
          obtain rfl : n = 1 := by omega
          go_wp2_with fail
          exact HF.out _ rfl
        · go_wp2_with fail
          exact HF.out _ (by rw [if_neg hc1])
end Go.Proofs.Ytclgnginmgleaaa
