/-
  Walks of package frame: what they compute is the plain frames.
-/
import Derived.Test.YtclgnginmgleaaaCrcLaws
import Derived.Lib.QuietBelow
import Derived.BigQuiet
import Derived.RegionTactic
import Derived.Deep.RegionHeld3
import Derived.Lib.SlBytesRow
import Derived.StillTailTactics
namespace Go.Proofs.Ytclgnginmgleaaa
open Go Go.RowKit Go.Sort

theorem under9 : Try.prog.underlying 9 = some .string := by kernel_rfl

/-- A text of bytes. -/
def str (l : List UInt8) : ByteArray := ⟨l.toArray⟩
theorem str_inj {a b : List UInt8} : str a = str b ↔ a = b := by
  unfold str
  constructor
  · intro h; injection h with h; exact Array.toList_inj.2 h |> fun h => by simpa using h
  · intro h; rw [h]
theorem strOf_bytes (l : List UInt8) : strOfNums (l.map fun b => (b.toNat : Int)) = str l := by
  unfold strOfNums str
  simp [List.map_map, Function.comp_def]

/-- The text of a slice of bytes. -/
theorem conv_str {w : World} {v : Value} {n : Nat} {l : List UInt8} (h : Rd w 1 v n (bvals l)) : (convert 22 9 v).run Try.prog w = .ok (.string (str l)) w := by
  obtain ⟨hl, ⟨a, c, rfl, rfl⟩ | ⟨b, off, cap, rfl, hn, hle, hm, hc⟩⟩ := h
  · have : l = [] := by simpa [bvals] using hl
    subst this
    rcases a with _ | ⟨ab, ao, asp⟩
    · exact run_convert_bytes_nil w 22 5 under22 under5 0 c 9 under9
    · rw [run_convert_bytes_string (P := Try.prog) w 22 9 5 _ 0 c under22 under5 under9, run_bytesToString w _ 0 c [] rfl]
      · rfl
  · have := run_convert_bytes_arg (P := Try.prog) w 22 5 under22 under5 b off n cap (l.map fun b => (b.toNat : Int)) (by simpa [bvals] using hl) (fun i hi => by
      have hil : i < l.length := by rw [bvals_length] at hl; omega
      rw [hc i _ (bvals_get l i hil)]
      simp [List.getD_eq_getElem?_getD, hil]) 9 under9
    rw [this, strOf_bytes l]

/-- A literal's row is one's own. -/
theorem lit_sl {w : World} {e : TypeId} (l : List Value) (n : Nat) (hl : l.length = n) (hn : 0 < n) (hm : n ≤ 1000) :
    Sl (w.alloc (.cells l.toArray e)) 1 (.slice (some ⟨w.heap.size, 0, none⟩) n n) (some w.heap.size) n l := by
  have hb : (w.alloc (.cells l.toArray e)).heap[w.heap.size]? = some (.cells l.toArray e (0, 0)) := heap_alloc_new _ _
  refine ⟨by rw [hl, Nat.mul_one], .inr ⟨_, 0, n, rfl, rfl, hn, Nat.le_refl _, by unfold maxLen; omega, fun j u hj => ?_, fun j hj => ?_⟩⟩
  · rw [Nat.zero_add, cell_of_row _ _ _ _ _ _ hb]; simpa using hj
  · rw [Nat.zero_add, cell_of_row _ _ _ _ _ _ hb]
    exact ⟨by rw [List.getElem?_toArray, List.getElem?_eq_getElem (by omega)]; rfl, frozen_of_row _ _ _ _ _ hb⟩

set_option maxRecDepth 100000 in
theorem count_any (n : Nat) (w : World) : Calls Try.prog 23 #[.int .i64 n] w fun e w' => e = .returned (.bool (decide (1 ≤ n) && decide (n ≤ 64))) ∧ w' = w := by
  go_enter Try.func23, Try.ntmps23
  by_cases h1 : 1 ≤ n
  · have h1' : (1 : Int) ≤ (n : Int) := by omega
    by_cases h2 : n ≤ 64
    · have h2' : (n : Int) ≤ 64 := by omega
      go_wp2
      go_ret
      simp [h1, h2]
    · have h2' : ¬ (n : Int) ≤ 64 := by omega
      go_wp2
      go_ret
      simp [h1, h2]
  · have h1' : ¬ (1 : Int) ≤ (n : Int) := by omega
    go_wp2
    go_ret
    simp [h1]

theorem low8 (q : BitVec 32) (k : Nat) : ((q.toNat : Int) / (2 : Int) ^ k) % 256 = ((Fr.byteAt q k).toNat : Int) := by
  rw [bv_shr32]
  unfold Fr.byteAt
  show _ = (((q >>> k).setWidth 8).toNat : Int)
  rw [BitVec.toNat_setWidth]; omega

set_option maxRecDepth 100000 in
theorem fsum_any (v : Value) (n : Nat) (l : List UInt8) (w : World) (h : Rd w 1 v n (bvals l)) :
    Calls Try.prog 24 #[v] w fun e w' => ∃ v' b, e = .returned v' ∧ w.heap.size ≤ b ∧ Sl w' 1 v' (some b) 4 (bvals (Fr.sum4 l)) ∧ Below w.heap.size w w' := by
  obtain ⟨a, c, rfl⟩ := h.len
  go_enter Try.func24, Try.ntmps24
  go_wp2_with fail
  refine (sum_any _ _ _ _ h).mono ?_
  rintro e w1 ⟨rfl, hb1⟩
  have e24 := low8 (Fr.crc l) 24
  have e16 := low8 (Fr.crc l) 16
  have e8 := low8 (Fr.crc l) 8
  have e0 := low8 (Fr.crc l) 0
  generalize hq : Fr.crc l = q at *
  go_wp2
  go_ret
  have hsz := hb1.size
  have hx : (q.toNat : Int) / 16777216 = ((Fr.byteAt q 24).toNat : Int) := by
    rw [← e24]; have := q.isLt; omega
  have e16' : (q.toNat : Int) / 65536 % 256 = ((Fr.byteAt q 16).toNat : Int) := e16
  have e8' : (q.toNat : Int) / 256 % 256 = ((Fr.byteAt q 8).toNat : Int) := e8
  have e0' : (q.toNat : Int) % 256 = ((Fr.byteAt q 0).toNat : Int) := by rw [← e0]; simp
  rw [hx, e16', e8', e0']
  refine ⟨_, _, rfl, hsz, ?_, hb1.alloc hsz _⟩
  have := lit_sl (w := w1) (e := 5) (bvals (Fr.sum4 l)) 4 rfl (by omega) (by omega)
  unfold Fr.sum4 bvals at this ⊢
  rw [hq] at this ⊢
  exact this
set_option maxRecDepth 100000 in
theorem equal_any (v1 v2 : Value) (n1 n2 : Nat) (l1 l2 : List UInt8) (w : World) (h1 : Rd w 1 v1 n1 (bvals l1)) (h2 : Rd w 1 v2 n2 (bvals l2)) :
    Calls Try.prog 27 #[v1, v2] w fun e w' => e = .returned (.bool (decide (l1 = l2))) ∧ w' = w := by
  have e1 := conv_str h1
  have e2 := conv_str h2
  obtain ⟨a, c, rfl⟩ := h1.len
  obtain ⟨a', c', rfl⟩ := h2.len
  have hs : ((str l1).toList == (str l2).toList) = decide (l1 = l2) := by
    rw [ByteArray.toList_eq, ByteArray.toList_eq]
    show (l1.toArray.toList == l2.toArray.toList) = _
    exact Bool.eq_iff_iff.2 (by simp)
  go_enter Try.func27, Try.ntmps27
  go_wp2
  go_ret
  exact ⟨rfl, rfl⟩

theorem eq_nil22 (A : Addr) (n c : Nat) (w : World) : (binOp .eql 22 (.slice (some A) n c) (.slice none 0 0)).run Try.prog w = .ok (.bool false) w := by kernel_rfl
theorem ne_nil22 (A : Addr) (n c : Nat) (w : World) : (binOp .neq 22 (.slice (some A) n c) (.slice none 0 0)).run Try.prog w = .ok (.bool true) w := by kernel_rfl
theorem ne_nil22' (w : World) : (binOp .neq 22 (.slice none 0 0) (.slice none 0 0)).run Try.prog w = .ok (.bool false) w := by kernel_rfl

set_option maxRecDepth 100000 in
theorem clone_any (A : Addr) (n c : Nat) (l : List UInt8) (w : World) (h : Rd w 1 (.slice (some A) n c) n (bvals l)) (h0 : 0 < n) (hn : n ≤ 1000) :
    Calls Try.prog 28 #[.slice (some A) n c] w fun e w' => ∃ v blk, e = .returned v ∧ v ≠ .slice none 0 0 ∧ Sl w' 1 v blk n (bvals l) ∧ (∀ b, blk = some b → w.heap.size ≤ b) ∧ Below w.heap.size w w' := by
  have hbel0 : Below w.heap.size w (w.alloc (.cells #[] 5)) := (Below.refl _ _).alloc (Nat.le_refl _) _
  have sl0 := Sl.empty (w.alloc (.cells #[] 5)) 1 (some ⟨w.heap.size, 0, none⟩)
  have sr1 := (h.below hbel0).srcB
  have bd1 : (3 * (0 + n) + 1024) * (1 + 1) ≤ 281474976710656 := by omega
  have en := eq_nil22 A n c
  go_enter Try.func28, Try.ntmps28
  go_wp2_with (first | (at_builtin; go_must (refine wpList_append_sl rfl _ _ _ _ 5 rfl under22 info5 rfl Nat.zero_lt_one rfl rfl sl0 sr1 bd1 ?_; intro v1 w1 blk1 sl1 fr1 kp1; have bel1 := Kept.toBelow hbel0 kp1 (fun b hb => by cases hb); clear sl0 sr1)) | fail)
  go_ret
  rw [List.nil_append, Nat.zero_add] at sl1
  refine ⟨v1, blk1, rfl, ?_, sl1, fresh_next (fun b hb => by cases hb) (Nat.le_refl _) (fr1.imp id fun ⟨b, h1, h2⟩ => ⟨b, h1, Nat.le_trans hbel0.size h2⟩), bel1⟩
  rintro rfl
  obtain ⟨_, ⟨_, _, h1, _⟩ | ⟨_, _, _, _, hv, _⟩⟩ := sl1
  · omega
  · cases hv
theorem size5 (w : World) : (Go.sizeOf 5).run Try.prog w = .ok 1 w := by kernel_rfl
theorem below_drew (w : World) : Below w.heap.size w w.drew := ⟨rfl, rfl, rfl, Nat.le_refl _, fun _ _ => rfl⟩
/-- A window of a slice that is read. -/
theorem Rd.win {w : World} {b off c : Nat} {l : List UInt8} (h : Rd w 1 (.slice (some ⟨b, off, none⟩) l.length c) l.length (bvals l)) (i m c' : Nat) (hm : i + m ≤ l.length) (hc : m ≤ c') (hc' : c' ≤ maxLen) :
    Rd w 1 (.slice (some ⟨b, off + i, none⟩) m c') m (bvals ((l.drop i).take m)) := by
  refine ⟨by simp [bvals]; omega, ?_⟩
  rcases Nat.eq_zero_or_pos m with h0 | h0
  · subst h0; exact .inl ⟨_, _, rfl, rfl⟩
  · obtain ⟨_, ⟨_, _, h1, _⟩ | ⟨b, off, cap, hv, _, h1, h2, hcell⟩⟩ := h
    · omega
    · simp only [Value.slice.injEq, Option.some.injEq, Addr.mk.injEq, true_and, and_true] at hv
      obtain ⟨⟨rfl, rfl⟩, rfl⟩ := hv
      refine .inr ⟨b, _, c', rfl, h0, hc, hc', fun j u hj => ?_⟩
      rw [Nat.add_assoc]
      apply hcell
      have e : bvals ((l.drop i).take m) = ((bvals l).drop i).take m := by simp [bvals, List.map_take, List.map_drop]
      rw [e] at hj
      have hjl := (List.getElem?_eq_some_iff.1 hj).1
      rw [List.length_take] at hjl
      rw [List.getElem?_take_of_lt (by omega), List.getElem?_drop] at hj
      exact hj

/-- What a look at what waits gives. -/
def LookPost (w : World) (l : List UInt8) (e : Ending) (w' : World) : Prop :=
  Below w.heap.size w w' ∧ match Fr.look l with
  | (k, none) => e = .returned (.tuple #[.int .i64 k, .slice none 0 0])
  | (k, some p) => ∃ v blk, e = .returned (.tuple #[.int .i64 k, v]) ∧ v ≠ .slice none 0 0 ∧ Sl w' 1 v blk p.length (bvals p) ∧ ∀ b, blk = some b → w.heap.size ≤ b

set_option maxRecDepth 100000 in
set_option maxHeartbeats 400000 in
theorem look_any (a : Option Addr) (c : Nat) (l : List UInt8) (w : World) (h : Rd w 1 (.slice a l.length c) l.length (bvals l)) (hm : l.length ≤ 140737488351232) :
    Calls Try.prog 25 #[.slice a l.length c] w fun e w' => LookPost w l e w' := by
  unfold LookPost
  rcases l with _ | ⟨m, r⟩
  · rw [show Fr.look [] = (0, none) from rfl]
    go_enter Try.func25, Try.ntmps25
    go_wp2
    go_ret2
    exact ⟨Below.refl _ _, rfl⟩
  have hR := h
  obtain ⟨_, ⟨_, _, h0, _⟩ | ⟨b, off, cap, hv, hn, hle, hcm, hc⟩⟩ := h
  · simp at h0
  simp only [Value.slice.injEq, true_and] at hv
  obtain ⟨rfl, rfl⟩ := hv
  have c0 : w.cell? ⟨b, off, none⟩ = some (.int .u8 (m.toNat : Int)) := hc 0 _ (bvals_get _ 0 (by simp))
  have hlen : (m :: r).length = r.length + 1 := rfl
  by_cases h165 : m = 165
  · subst h165
    have m165 : (((165 : UInt8).toNat : Int)) = 165 := rfl
    rw [m165] at c0
    rcases r with _ | ⟨cc, q⟩
    · clear hlen
      rw [show Fr.look [165] = (0, none) from rfl]
      rw [show ([165] : List UInt8).length = 1 from rfl] at *
      have HC := Lib.hid hc
      clear hc
      go_enter Try.func25, Try.ntmps25
      go_wp2
      go_ret2
      exact ⟨Below.refl _ _, rfl⟩
    · have c1 : w.cell? ⟨b, off + 1, none⟩ = some (.int .u8 (cc.toNat : Int)) := hc 1 _ (bvals_get _ 1 (by simp))
      have HC := Lib.hid hc
      clear hc
      have hlen2 : (165 :: cc :: q).length = q.length + 2 := rfl
      clear hlen
      have hlook : Fr.look (165 :: cc :: q) = if Fr.okCount cc = false then (1, none) else if q.length < cc.toNat + 4 then (0, none) else if Fr.sum4 (165 :: cc :: q.take cc.toNat) = (q.drop cc.toNat).take 4 then (cc.toNat + 6, some (q.take cc.toNat)) else (1, none) := rfl
      rw [hlook]
      clear hlook
      have hcc := cc.toNat_lt
      have hok : Fr.okCount cc = (decide (1 ≤ cc.toNat) && decide (cc.toNat ≤ 64)) := rfl
      by_cases hk : Fr.okCount cc = false
      · rw [if_pos hk]
        have hk' := hk
        rw [hok] at hk'
        go_enter Try.func25, Try.ntmps25
        go_wp2_with (first | (go_at_call 23; refine (count_any _ _).mono ?_; rintro e w1 ⟨rfl, rfl⟩; rw [hk']))
        go_ret2
        exact ⟨Below.refl _ _, rfl⟩
      · rw [if_neg hk]
        have hk' : (decide (1 ≤ cc.toNat) && decide (cc.toNat ≤ 64)) = true := by rw [← hok]; simpa using hk
        have hk2 : 1 ≤ cc.toNat ∧ cc.toNat ≤ 64 := by simpa using hk'
        by_cases hq : q.length < cc.toNat + 4
        · rw [if_pos hq]
          rw [hlen2] at *
          have hqI : ((q.length + 2 : Nat) : Int) < (2 : Int) + (cc.toNat : Int) + (4 : Int) := by omega
          have hq1 : ¬ ((q.length + 2 : Nat) : Int) < 2 := by omega
          have hq2 : (1 : Int) < ((q.length + 2 : Nat) : Int) := by omega
          have hq3 : (((q.length + 2 : Nat) : Int) == 0) = false := by rw [beq_eq_false_iff_ne]; omega
          have hq4 : (0 : Int) < ((q.length + 2 : Nat) : Int) := by omega
          clear hq hok hlen2
          generalize q.length + 2 = n at *
          generalize hcn : cc.toNat = cn at *
          go_enter Try.func25, Try.ntmps25
          go_wp2_with (first | (go_at_call 23; refine (count_any _ _).mono ?_; rintro e w1 ⟨rfl, rfl⟩; rw [hk']))
          go_ret2
          exact ⟨Below.refl _ _, rfl⟩
        · rw [if_neg hq]
          have hd := hR.below (below_drew w)
          have r1 : Rd w.drew 1 (.slice (some ⟨b, off, none⟩) (2 + cc.toNat) c) (2 + cc.toNat) (bvals (165 :: cc :: q.take cc.toNat)) := by
            have := Rd.win hd 0 (2 + cc.toNat) c (by rw [hlen2]; omega) (by rw [hlen2] at hle; omega) hcm
            rwa [Nat.add_comm 2, List.drop_zero, List.take_succ_cons, List.take_succ_cons, Nat.add_comm _ 2] at this
          have r2 : Rd w.drew 1 (.slice (some ⟨b, off + (2 + cc.toNat), none⟩) 4 (c - (2 + cc.toNat))) 4 (bvals ((q.drop cc.toNat).take 4)) := by
            have := Rd.win hd (2 + cc.toNat) 4 (c - (2 + cc.toNat)) (by rw [hlen2]; omega) (by rw [hlen2] at hle; omega) (by omega)
            rwa [show (165 :: cc :: q).drop (2 + cc.toNat) = q.drop cc.toNat by rw [Nat.add_comm]; rfl] at this
          have r3 : Rd w.drew 1 (.slice (some ⟨b, off + 2, none⟩) cc.toNat (c - 2)) cc.toNat (bvals (q.take cc.toNat)) := by
            have := Rd.win hd 2 cc.toNat (c - 2) (by rw [hlen2]; omega) (by rw [hlen2] at hle; omega) (by omega)
            exact this
          have hql : (q.take cc.toNat).length = cc.toNat := by rw [List.length_take]; omega
          have hnc : q.length + 2 ≤ c := by rw [hlen2] at hle; exact hle
          rw [hlen2] at *
          have hqI : ¬ ((q.length + 2 : Nat) : Int) < (2 : Int) + (cc.toNat : Int) + (4 : Int) := by omega
          have hq1 : ¬ ((q.length + 2 : Nat) : Int) < 2 := by omega
          have hq2 : (1 : Int) < ((q.length + 2 : Nat) : Int) := by omega
          have hq3 : (((q.length + 2 : Nat) : Int) == 0) = false := by rw [beq_eq_false_iff_ne]; omega
          have hq4 : (0 : Int) < ((q.length + 2 : Nat) : Int) := by omega
          clear hq hok hlen2 hd hR
          generalize q.length + 2 = n at *
          generalize hcn : cc.toNat = cn at *
          obtain ⟨E, hE⟩ : ∃ E : Nat, E = 2 + cn := ⟨_, rfl⟩
          obtain ⟨F, hF⟩ : ∃ F : Nat, F = 2 + cn + 4 := ⟨_, rfl⟩
          have r2' : Rd w.drew 1 (.slice (some ⟨b, off + E, none⟩) (F - E) (c - E)) (F - E) (bvals ((q.drop cn).take 4)) := by
            rw [hE, show F - (2 + cn) = 4 by omega]; exact r2
          have r3' : Rd w.drew 1 (.slice (some ⟨b, off + 2, none⟩) (E - 2) (c - 2)) (E - 2) (bvals (q.take cn)) := by
            rw [show E - 2 = cn by omega]; exact r3
          rw [← hE] at r1
          have e1 : (2 : Int) + (cn : Int) = (E : Int) := by omega
          have e2 : (E : Int) + (4 : Int) = (F : Int) := by omega
          have eb : (E : Int) < 1000 := by omega
          have e3 : IntKind.i64.wrap (F : Int) = (F : Int) := by simp [IntKind.wrap, IntKind.bits, IntKind.signed]; omega
          have j1 : (E : Int) ≤ (c : Int) := by omega
          have j2 : (F : Int) ≤ (c : Int) := by omega
          have j3 : (0 : Int) ≤ (E : Int) := by omega
          have j5 : (E : Int) ≤ (F : Int) := by omega
          have j6 : (2 : Int) ≤ (E : Int) := by omega
          have j7 : ¬ (n : Int) < (F : Int) := by omega
          have hE' := Lib.hid hE
          have hF' := Lib.hid hF
          have hE2 : 0 < E - 2 := by omega
          have hE3 : E - 2 ≤ 1000 := by omega
          have hne0 : ¬ c = 0 := by omega
          have hne1 : ¬ c = E := by omega
          have hne2 : ¬ c = 2 := by omega
          clear r2 r3 hqI hE hF
          by_cases hEq : Fr.sum4 (165 :: cc :: q.take cn) = (q.drop cn).take 4
          · rw [if_pos hEq]
            have hEd : decide (Fr.sum4 (165 :: cc :: q.take cn) = (q.drop cn).take 4) = true := by simpa using hEq
            go_enter Try.func25, Try.ntmps25
            go_wp2_with (first | (go_at_call 23; refine (count_any _ _).mono ?_; rintro e w1 ⟨rfl, rfl⟩; rw [hk']) | (go_region_held3 (fun _ => True) (trivial) (first | (go_at_call 24; refine (fsum_any _ _ _ _ r1).mono ?_; rintro e w2 ⟨v1, b1, rfl, hb1, sl1, bel1⟩; have q2 := r2'.below bel1; have q3 := r3'.below bel1) | (go_at_call 27; refine (equal_any _ _ _ _ _ _ _ sl1.rd q2).mono ?_; rintro e w3 ⟨rfl, rfl⟩; rw [hEd]))) | (go_at_call 28; refine (clone_any _ _ _ _ _ q3 hE2 hE3).mono ?_; rintro e w4 ⟨v4, blk4, rfl, hv4, sl4, fr4, bel4⟩))
            go_ret2
            have hE := hE'.out
            have hF := hF'.out
            have hB := (below_drew w1).trans bel1
            refine ⟨hB.trans (bel4.mono hB.size), v4, blk4, ?_, hv4, ?_, fun b hb => Nat.le_trans hB.size (fr4 b hb)⟩
            · rw [show ((cn + 6 : Nat) : Int) = (F : Int) by omega]; rfl
            · rw [hql]; rw [show E - 2 = cn by omega] at sl4; exact sl4
          · rw [if_neg hEq]
            have hEd : decide (Fr.sum4 (165 :: cc :: q.take cn) = (q.drop cn).take 4) = false := by simpa using hEq
            go_enter Try.func25, Try.ntmps25
            go_wp2_with (first | (go_at_call 23; refine (count_any _ _).mono ?_; rintro e w1 ⟨rfl, rfl⟩; rw [hk']) | (go_region_held3 (fun _ => True) (trivial) (first | (go_at_call 24; refine (fsum_any _ _ _ _ r1).mono ?_; rintro e w2 ⟨v1, b1, rfl, hb1, sl1, bel1⟩; have q2 := r2'.below bel1) | (go_at_call 27; refine (equal_any _ _ _ _ _ _ _ sl1.rd q2).mono ?_; rintro e w3 ⟨rfl, rfl⟩; rw [hEd]))))
            go_ret2
            exact ⟨(below_drew w1).trans bel1, rfl⟩
  · have hne : (((m.toNat : Int)) != 165) = true := by
      rw [bne_iff_ne]
      intro h; apply h165; apply UInt8.toNat_inj.1; exact Int.ofNat.inj h
    have hlook : Fr.look (m :: r) = (1, none) := by unfold Fr.look; simp [h165]
    rw [hlook]
    have HC := Lib.hid hc
    clear hc
    rw [hlen] at *
    have hnz : ¬ ((r.length + 1 : Nat) : Int) = 0 := by omega
    have hpos : (0 : Int) < ((r.length + 1 : Nat) : Int) := by omega
    generalize r.length + 1 = n at *
    have hnz' : (((n : Int)) == 0) = false := by rw [beq_eq_false_iff_ne]; omega
    go_enter Try.func25, Try.ntmps25
    go_wp2
    go_ret2
    exact ⟨Below.refl _ _, rfl⟩
end Go.Proofs.Ytclgnginmgleaaa
