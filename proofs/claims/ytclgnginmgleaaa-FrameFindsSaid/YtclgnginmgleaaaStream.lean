/-
  Walks of a stream of frames.
-/
import Derived.Test.YtclgnginmgleaaaFrameWalks
namespace Go.Proofs.Ytclgnginmgleaaa
open Go Go.RowKit Go.Sort

/-- A stream that holds bytes. -/
def Strm (w : World) (g : Nat) (blk : Option Nat) (l : List UInt8) : Prop :=
  ∃ v T, w.heap[g]? = some (.cells #[v] T (0, 0)) ∧ Sl w 1 v blk l.length (bvals l) ∧ blk ≠ some g

theorem Strm.kept {w w' : World} {g : Nat} {blk : Option Nat} {l : List UInt8} {S : Nat → Prop} (h : Strm w g blk l) (k : Kept S w w') (hg : ¬ S g) (hb : ∀ b, blk = some b → ¬ S b) : Strm w' g blk l := by
  obtain ⟨v, T, h1, h2, h3⟩ := h
  have hgl : g < w.heap.size := by
    rcases Nat.lt_or_ge g w.heap.size with h | h
    · exact h
    · rw [Array.getElem?_eq_none h] at h1; cases h1
  exact ⟨v, T, by rw [k.block g hgl hg]; exact h1, h2.kept k Nat.zero_lt_one hb, h3⟩
theorem Strm.below {w w' : World} {g : Nat} {blk : Option Nat} {l : List UInt8} (h : Strm w g blk l) (k : Below w.heap.size w w') : Strm w' g blk l :=
  h.kept (S := fun _ => False) (Kept.of_below k) id fun _ _ => id
theorem Strm.lt {w : World} {g : Nat} {blk : Option Nat} {l : List UInt8} (h : Strm w g blk l) : g < w.heap.size := by
  obtain ⟨v, T, h1, _⟩ := h
  rcases Nat.lt_or_ge g w.heap.size with h | h
  · exact h
  · rw [Array.getElem?_eq_none h] at h1; cases h1

set_option maxRecDepth 100000 in
set_option maxHeartbeats 200000 in
theorem feed_any (g : Nat) (blk : Option Nat) (l k : List UInt8) (sv : Value) (m : Nat) (w : World) (hs : Strm w g blk l) (h : Rd w 1 sv m (bvals k)) (hm : l.length + m ≤ 10000000000) :
    Calls Try.prog 18 #[.pointer (some ⟨g, 0, none⟩), sv] w fun e w' => e = .returned (.tuple #[]) ∧ ∃ blk', Strm w' g blk' (l ++ k) ∧ (blk' = blk ∨ ∃ b, blk' = some b ∧ w.heap.size ≤ b) ∧ Kept (fun i => i = g ∨ blk = some i) w w' := by
  have hgl := hs.lt
  obtain ⟨v, T, hg, hsl, hbg⟩ := hs
  obtain ⟨a, c, rfl⟩ := h.len
  obtain ⟨a', c', rfl⟩ := hsl.rd.len
  have cg : w.cell? ⟨g, 0, none⟩ = some (.slice a' l.length c') := by rw [cell_of_row _ _ _ _ _ _ hg]; rfl
  have src := h.srcB
  have bd : (3 * (l.length + m) + 1024) * (1 + 1) ≤ 281474976710656 := by omega
  have post : ∀ v1 w1 blk1, Sl w1 1 v1 blk1 (l.length + m) (bvals l ++ bvals k) → (blk1 = blk ∨ ∃ b, blk1 = some b ∧ w.heap.size ≤ b) → Kept (fun k => blk = some k) w w1 → (w1.cell? ⟨g, 0, none⟩ = some (.slice a' l.length c') ∧ w1.frozen? ⟨g, 0, none⟩ = false) ∧
      (∃ blk', Strm (w1.setCell ⟨g, 0, none⟩ v1) g blk' (l ++ k) ∧ (blk' = blk ∨ ∃ b, blk' = some b ∧ w.heap.size ≤ b) ∧ Kept (fun i => i = g ∨ blk = some i) w (w1.setCell ⟨g, 0, none⟩ v1)) := by
    intro v1 w1 blk1 sl1 fr1 kp1
    have hg1 : w1.heap[g]? = some (.cells #[.slice a' l.length c'] T (0, 0)) := by rw [kp1.block g hgl hbg]; exact hg
    have hb1 : blk1 ≠ some g := by
      rcases fr1 with rfl | ⟨b, rfl, hb⟩
      · exact hbg
      · intro e; injection e with e; omega
    refine ⟨⟨by rw [cell_of_row _ _ _ _ _ _ hg1]; rfl, frozen_of_row _ _ _ _ _ hg1⟩, blk1, ⟨v1, T, ?_, ?_, hb1⟩, fr1, ?_⟩
    · rw [heap_setCell_same _ _ _ _ _ _ hg1]; rfl
    · rw [List.length_append, bvals_append]
      have hmk : m = k.length := h.n
      rw [← hmk]
      refine sl1.of_block fun b hb => ?_
      exact Below.heap_setCell _ _ _ _ (by rintro rfl; exact hb1 hb)
    · exact (kp1.mono (T := fun i => i = g ∨ blk = some i) fun _ _ h => Or.inr h).setCell (p := ⟨g, 0, none⟩) (Or.inr (Or.inl rfl)) _
  have POST := Lib.hid post
  clear post hg hbg hgl hm h
  go_enter Try.func18, Try.ntmps18
  go_wp2_with (first | (at_builtin; go_must (refine wpList_append_sl rfl _ _ _ _ 5 rfl under22 info5 rfl Nat.zero_lt_one rfl rfl hsl src bd ?_; intro v1 w1 blk1 sl1 fr1 kp1; obtain ⟨A1, C1, rfl⟩ := sl1.rd.len; obtain ⟨⟨q1, q2⟩, q3⟩ := POST.out _ w1 blk1 sl1 fr1 kp1; have Q3 := Lib.hid q3; clear sl1 fr1 kp1 q3 src cg)) | fail)
  exact ⟨rfl, _, results_none rfl _ _ _, rfl, Q3.out⟩
set_option maxRecDepth 100000 in
theorem held_any (g : Nat) (blk : Option Nat) (l : List UInt8) (w : World) (hs : Strm w g blk l) :
    Calls Try.prog 21 #[.pointer (some ⟨g, 0, none⟩)] w fun e w' => e = .returned (.int .i64 (l.length : Int)) ∧ w' = w := by
  obtain ⟨v, T, hg, hsl, hbg⟩ := hs
  obtain ⟨a', c', rfl⟩ := hsl.rd.len
  have cg : w.cell? ⟨g, 0, none⟩ = some (.slice a' l.length c') := by rw [cell_of_row _ _ _ _ _ _ hg]; rfl
  clear hg hbg hsl
  go_enter Try.func21, Try.ntmps21
  go_wp2
  go_ret
  exact ⟨rfl, rfl⟩

/-- What is left of a slice behind its first k elements. -/
theorem Sl.rest {w : World} {b off c k : Nat} {l : List UInt8} (h : Sl w 1 (.slice (some ⟨b, off, none⟩) l.length c) (some b) l.length (bvals l)) (hk : k ≤ l.length) :
    ∃ blk', (blk' = some b ∨ blk' = none) ∧ Sl w 1 (.slice (if c = k then some ⟨b, off, none⟩ else some ⟨b, off + k, none⟩) (l.length - k) (c - k)) blk' (l.drop k).length (bvals (l.drop k)) := by
  obtain ⟨_, ⟨_, h0, _⟩ | ⟨b', off', cap, hb, hv, h0, h1, h2, hc, ht⟩⟩ := h
  · cases h0
  obtain rfl := Option.some.inj hb
  simp only [Value.slice.injEq, Option.some.injEq, Addr.mk.injEq, and_true, true_and] at hv
  obtain ⟨rfl, rfl⟩ := hv
  by_cases hck : c = k
  · subst hck
    have hn : l.length = c := by omega
    refine ⟨none, .inr rfl, by simp [bvals], .inl ⟨some ⟨b, off, none⟩, rfl, by simp; omega, ?_⟩⟩
    rw [if_pos rfl, hn]; simp
  · refine ⟨some b, .inl rfl, by simp [bvals], .inr ⟨b, off + k, c - k, rfl, ?_, by omega, by simp; omega, by omega, fun j u hj => ?_, fun j hj => ?_⟩⟩
    · rw [if_neg hck, List.length_drop]
    · rw [Nat.add_assoc]
      apply hc
      have e : bvals (l.drop k) = (bvals l).drop k := by simp [bvals]
      rw [e, List.getElem?_drop] at hj
      exact hj
    · rw [Nat.add_assoc]
      exact ht (k + j) (by omega)

def waits (g : Nat) (w : World) : Nat := match w.cell? ⟨g, 0, none⟩ with
  | some (.slice _ n _) => n
  | _ => 0

/-- What a store of what is left brings. -/
theorem Strm.cut {w : World} {g b off c k : Nat} {l : List UInt8} {T : TypeId} (hg : w.heap[g]? = some (.cells #[.slice (some ⟨b, off, none⟩) l.length c] T (0, 0))) (h : Sl w 1 (.slice (some ⟨b, off, none⟩) l.length c) (some b) l.length (bvals l)) (hbg : some b ≠ some g) (hk : k ≤ l.length) :
    ∃ blk', (blk' = some b ∨ blk' = none) ∧ Strm (w.setCell ⟨g, 0, none⟩ (.slice (if c = k then some ⟨b, off, none⟩ else some ⟨b, off + k, none⟩) (l.length - k) (c - k))) g blk' (l.drop k) := by
  obtain ⟨blk', hb, hs⟩ := h.rest hk
  have hne : blk' ≠ some g := by
    rcases hb with rfl | rfl
    · exact hbg
    · intro e; cases e
  refine ⟨blk', hb, _, T, by rw [heap_setCell_same _ _ _ _ _ _ hg]; rfl, hs.of_block fun i hi => ?_, hne⟩
  exact Below.heap_setCell _ _ _ _ (by rintro rfl; exact hne hi)

set_option maxRecDepth 100000 in
set_option maxHeartbeats 600000 in
theorem next_any (g : Nat) (blk : Option Nat) (l : List UInt8) (w : World) (hs : Strm w g blk l) (hm : l.length ≤ 10000000000) :
    Calls Try.prog 20 #[.pointer (some ⟨g, 0, none⟩)] w fun e w' => (∃ blk', Strm w' g blk' (Fr.next l).2 ∧ (blk' = blk ∨ blk' = none)) ∧ Kept (fun i => i = g) w w' ∧
      ((Fr.next l).1 = none ∧ e = .returned (.tuple #[.slice none 0 0, .bool false]) ∨ ∃ p v pb, (Fr.next l).1 = some p ∧ e = .returned (.tuple #[v, .bool true]) ∧ Sl w' 1 v pb p.length (bvals p) ∧ ∀ b, pb = some b → w.heap.size ≤ b) := by
  have hgl := hs.lt
  go_enter Try.func20, Try.ntmps20
  go_wp2_with fail
  go_loopw [] (fun wr => ∃ (lr : List UInt8) (blkr : Option Nat), Fr.next l = Fr.next lr ∧ Strm wr g blkr lr ∧ lr.length ≤ l.length ∧ (blkr = blk ∨ blkr = none) ∧ Kept (fun i => i = g) w wr) (fun w' => waits g w')
  case atStart => exact ⟨l, blk, rfl, hs, Nat.le_refl _, .inl rfl, Kept.refl _ _⟩
  case round =>
    obtain ⟨lr, blkr, hnx, hst, hll, hbr, hkp⟩ := hrel
    have HNX := Lib.hid hnx
    have hst' := hst
    obtain ⟨v, T, hg, hsl, hbg⟩ := hst
    obtain ⟨a', c', rfl⟩ := hsl.rd.len
    have cg : wr.cell? ⟨g, 0, none⟩ = some (.slice a' lr.length c') := by rw [cell_of_row _ _ _ _ _ _ hg]; rfl
    have hlk := look_any a' c' lr wr hsl.rd (by omega)
    unfold LookPost at hlk
    rcases hlook : Fr.look lr with ⟨k, o⟩
    rw [hlook] at hlk
    by_cases hk0 : k = 0
    · subst hk0
      have ho : o = none := by
        cases o with
        | none => rfl
        | some p => have := (Fr.look_payload _ _ _ hlook).1; omega
      subst ho
      have hn := Lib.hid (Fr.next_more lr (by rw [hlook]))
      have HLK := Lib.hid hlk
      have POST : ∀ w2, Below wr.heap.size wr w2 → (∃ blk', Strm w2 g blk' lr ∧ (blk' = blk ∨ blk' = none)) ∧ Kept (fun i => i = g) w w2 := fun w2 hb => ⟨⟨blkr, hst'.below hb, hbr⟩, hkp.andBelow hb⟩
      have POST' := Lib.hid POST
      clear hlk POST hg hbg hsl hst' hnx hlook
      go_wp2_with (first | (go_at_call 25; refine HLK.out.mono ?_; rintro e w2 ⟨hb, rfl⟩) | fail)
      go_ret2
      rw [HNX.out, hn.out]
      exact ⟨(POST'.out _ hb).1, (POST'.out _ hb).2, .inl ⟨rfl, rfl⟩⟩
    · have hle := Fr.look_le lr
      rw [hlook] at hle
      have hle' : k ≤ lr.length := hle
      obtain ⟨b, off, rfl, rfl, hnc⟩ : ∃ b off, a' = some ⟨b, off, none⟩ ∧ blkr = some b ∧ lr.length ≤ c' := by
        obtain ⟨_, ⟨_, _, h0, _⟩ | ⟨b, off, cap, hb, hv, _, h2, _⟩⟩ := hsl
        · omega
        · simp only [Value.slice.injEq, true_and] at hv
          obtain ⟨rfl, rfl⟩ := hv
          exact ⟨b, off, rfl, hb, h2⟩
      have j1 : (0 : Int) ≤ (k : Int) := by omega
      have j2 : (k : Int) ≤ (lr.length : Int) := by omega
      have hkb : ((k : Int) == 0) = false := by rw [beq_eq_false_iff_ne]; omega
      have hgr : g < wr.heap.size := Nat.lt_of_lt_of_le hgl hkp.size
      have POST : ∀ w2, Below wr.heap.size wr w2 → (w2.cell? ⟨g, 0, none⟩ = some (.slice (some ⟨b, off, none⟩) lr.length c') ∧ w2.frozen? ⟨g, 0, none⟩ = false) ∧
          (∃ blk', (blk' = some b ∨ blk' = none) ∧ Strm (w2.setCell ⟨g, 0, none⟩ (.slice (if c' = k then some ⟨b, off, none⟩ else some ⟨b, off + k, none⟩) (lr.length - k) (c' - k))) g blk' (lr.drop k)) ∧
          Kept (fun i => i = g) w (w2.setCell ⟨g, 0, none⟩ (.slice (if c' = k then some ⟨b, off, none⟩ else some ⟨b, off + k, none⟩) (lr.length - k) (c' - k))) ∧ waits g (w2.setCell ⟨g, 0, none⟩ (.slice (if c' = k then some ⟨b, off, none⟩ else some ⟨b, off + k, none⟩) (lr.length - k) (c' - k))) = lr.length - k := by
        intro w2 hb
        have hg2 : w2.heap[g]? = some (.cells #[.slice (some ⟨b, off, none⟩) lr.length c'] T (0, 0)) := by rw [hb.block g hgr]; exact hg
        have cg2 : w2.cell? ⟨g, 0, none⟩ = some (.slice (some ⟨b, off, none⟩) lr.length c') := by rw [cell_of_row _ _ _ _ _ _ hg2]; rfl
        refine ⟨⟨cg2, frozen_of_row _ _ _ _ _ hg2⟩, Strm.cut hg2 (hsl.below hb Nat.zero_lt_one) hbg hle', (hkp.andBelow hb).setCell (p := ⟨g, 0, none⟩) (.inr rfl) _, ?_⟩
        unfold waits
        rw [World.cell?_setCell_same' _ _ _ (by rw [cg2]; rfl)]
      have POST' := Lib.hid POST
      have hw : waits g wr = lr.length := by unfold waits; rw [cg]
      have hbr' : (some b : Option Nat) = blk ∨ (some b : Option Nat) = none := hbr
      have HBR := Lib.hid hbr'
      have HW := Lib.hid hw
      rcases o with _ | p
      · have hn := Lib.hid (Fr.next_skip lr k hlook hk0)
        have HLK := Lib.hid hlk
        clear hlk POST hg hbg hsl hst' hnx hlook hbr hbr' hw hkp
        clear hle
        by_cases hck : c' = k
        · subst hck
          have hnk : lr.length = c' := by omega
          have POSTa : ∀ w2, Below wr.heap.size wr w2 → (w2.cell? ⟨g, 0, none⟩ = some (.slice (some ⟨b, off, none⟩) c' c') ∧ w2.frozen? ⟨g, 0, none⟩ = false) ∧
              (∃ blk', (blk' = some b ∨ blk' = none) ∧ Strm (w2.setCell ⟨g, 0, none⟩ (.slice (some ⟨b, off, none⟩) 0 0)) g blk' (lr.drop c')) ∧
              Kept (fun i => i = g) w (w2.setCell ⟨g, 0, none⟩ (.slice (some ⟨b, off, none⟩) 0 0)) ∧ waits g (w2.setCell ⟨g, 0, none⟩ (.slice (some ⟨b, off, none⟩) 0 0)) = 0 := by
            intro w2 hb
            have := POST'.out w2 hb
            rw [if_pos rfl, hnk, Nat.sub_self] at this
            exact this
          have POSTb := Lib.hid POSTa
          have HLL := Lib.hid hll
          have HNK := Lib.hid hnk
          rw [hnk] at HLK cg j2
          clear POST' POSTa hll hnk hle' hnc
          go_wp2_with (first | (go_at_call 25; refine HLK.out.mono ?_; rintro e w2 ⟨hb, rfl⟩; obtain ⟨⟨q1, q2⟩, q3, q4, q5⟩ := POSTb.out w2 hb; have Q3 := Lib.hid q3; have Q4 := Lib.hid q4; have Q5 := Lib.hid q5; clear q3 q4 q5 cg) | fail)
          obtain ⟨blk2, hb2, hs2⟩ := Q3.out
          refine ⟨⟨lr.drop c', blk2, HNX.out.trans hn.out, hs2, by rw [List.length_drop]; have := HLL.out; omega, ?_, Q4.out⟩, ?_⟩
          · rcases hb2 with rfl | rfl
            · exact HBR.out
            · exact .inr rfl
          · rw [Q5.out, HW.out, HNK.out]; omega
        · go_wp2_with (first | (go_at_call 25; refine HLK.out.mono ?_; rintro e w2 ⟨hb, rfl⟩; obtain ⟨⟨q1, q2⟩, q3, q4, q5⟩ := POST'.out w2 hb; rw [if_neg hck] at q3 q4 q5; have Q3 := Lib.hid q3; have Q4 := Lib.hid q4; have Q5 := Lib.hid q5; clear q3 q4 q5 cg) | fail)
          obtain ⟨blk2, hb2, hs2⟩ := Q3.out
          refine ⟨⟨lr.drop k, blk2, HNX.out.trans hn.out, hs2, by rw [List.length_drop]; omega, ?_, Q4.out⟩, ?_⟩
          · rcases hb2 with rfl | rfl
            · exact HBR.out
            · exact .inr rfl
          · rw [Q5.out, HW.out]; omega
      · have hn := Lib.hid (Fr.next_take lr k p hlook)
        obtain ⟨hkp6, hp1, hp64, _⟩ := Fr.look_payload _ _ _ hlook
        have HLK : Calls Try.prog 25 #[.slice (some ⟨b, off, none⟩) lr.length c'] wr fun e w2 => Below wr.heap.size wr w2 ∧ ∃ pb po pc, e = .returned (.tuple #[.int .i64 k, .slice (some ⟨pb, po, none⟩) p.length pc]) ∧ Sl w2 1 (.slice (some ⟨pb, po, none⟩) p.length pc) (some pb) p.length (bvals p) ∧ wr.heap.size ≤ pb := by
          refine hlk.mono ?_
          rintro e w2 ⟨hb, v, pblk, he, _, hsp, hfr⟩
          have hsp' := hsp
          obtain ⟨_, ⟨_, _, h0, _⟩ | ⟨pb, po, pc, hb', rfl, _⟩⟩ := hsp'
          · omega
          · subst hb'
            exact ⟨hb, pb, po, pc, he, hsp, hfr pb rfl⟩
        have HLK' := Lib.hid HLK
        have en := ne_nil22
        have fin : ∀ w2 nv pb po pc, Below wr.heap.size wr w2 → Sl w2 1 (.slice (some ⟨pb, po, none⟩) p.length pc) (some pb) p.length (bvals p) → wr.heap.size ≤ pb → Sl (w2.setCell ⟨g, 0, none⟩ nv) 1 (.slice (some ⟨pb, po, none⟩) p.length pc) (some pb) p.length (bvals p) ∧ w.heap.size ≤ pb := by
          intro w2 nv pb po pc hb hsp hfr
          exact ⟨hsp.of_block fun i hi => Below.heap_setCell _ _ _ _ (by obtain rfl := Option.some.inj hi; show pb ≠ g; omega), Nat.le_trans hkp.size hfr⟩
        have FIN := Lib.hid fin
        have HLL := Lib.hid hll
        by_cases hck : c' = k
        · subst hck
          have hnk : lr.length = c' := by omega
          have POSTa : ∀ w2, Below wr.heap.size wr w2 → (w2.cell? ⟨g, 0, none⟩ = some (.slice (some ⟨b, off, none⟩) c' c') ∧ w2.frozen? ⟨g, 0, none⟩ = false) ∧
              (∃ blk', (blk' = some b ∨ blk' = none) ∧ Strm (w2.setCell ⟨g, 0, none⟩ (.slice (some ⟨b, off, none⟩) 0 0)) g blk' (lr.drop c')) ∧
              Kept (fun i => i = g) w (w2.setCell ⟨g, 0, none⟩ (.slice (some ⟨b, off, none⟩) 0 0)) ∧ waits g (w2.setCell ⟨g, 0, none⟩ (.slice (some ⟨b, off, none⟩) 0 0)) = 0 := by
            intro w2 hb
            have := POST'.out w2 hb
            rw [if_pos rfl, hnk, Nat.sub_self] at this
            exact this
          have POSTb := Lib.hid POSTa
          rw [hnk] at HLK' cg j2
          clear POST' POSTa hll hnk hle' hnc HLK fin POST hg hbg hsl hst' hnx hlook hbr hbr' hw hkp hle hlk hkp6
          go_wp2_with (first | (go_at_call 25; refine HLK'.out.mono ?_; rintro e w2 ⟨hb, pb, po, pc, rfl, sp, fp⟩; obtain ⟨⟨q1, q2⟩, q3, q4, q5⟩ := POSTb.out w2 hb; have Q3 := Lib.hid q3; have Q4 := Lib.hid q4; have SP := Lib.hid (FIN.out w2 (.slice (some ⟨b, off, none⟩) 0 0) pb po pc hb sp fp); clear q3 q4 q5 cg sp fp) | fail)
          go_ret2
          rw [HNX.out, hn.out]
          obtain ⟨blk2, hb2, hs2⟩ := Q3.out
          refine ⟨⟨blk2, hs2, ?_⟩, Q4.out, .inr ⟨p, _, _, rfl, rfl, SP.out.1, fun i hi => by obtain rfl := Option.some.inj hi; exact SP.out.2⟩⟩
          rcases hb2 with rfl | rfl
          · exact HBR.out
          · exact .inr rfl
        · clear hll hle' HLK fin POST hg hbg hsl hst' hnx hlook hbr hbr' hw hkp hle hlk hkp6
          go_wp2_with (first | (go_at_call 25; refine HLK'.out.mono ?_; rintro e w2 ⟨hb, pb, po, pc, rfl, sp, fp⟩; obtain ⟨⟨q1, q2⟩, q3, q4, q5⟩ := POST'.out w2 hb; rw [if_neg hck] at q3 q4; have Q3 := Lib.hid q3; have Q4 := Lib.hid q4; have SP := Lib.hid (FIN.out w2 (.slice (some ⟨b, off + k, none⟩) (lr.length - k) (c' - k)) pb po pc hb sp fp); clear q3 q4 q5 cg sp fp) | fail)
          go_ret2
          rw [HNX.out, hn.out]
          obtain ⟨blk2, hb2, hs2⟩ := Q3.out
          refine ⟨⟨blk2, hs2, ?_⟩, Q4.out, .inr ⟨p, _, _, rfl, rfl, SP.out.1, fun i hi => by obtain rfl := Option.some.inj hi; exact SP.out.2⟩⟩
          rcases hb2 with rfl | rfl
          · exact HBR.out
          · exact .inr rfl
end Go.Proofs.Ytclgnginmgleaaa
