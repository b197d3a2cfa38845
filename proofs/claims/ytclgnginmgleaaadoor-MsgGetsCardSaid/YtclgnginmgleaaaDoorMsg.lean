/-
  Walks of package msg: what they compute is the plain packets.
-/
import Derived.Test.YtclgnginmgleaaaDoorLib
import Derived.Test.YtclgnginmgleaaaDoorModel
namespace Go.Proofs.YtclgnginmgleaaaDoor
open Go Go.RowKit Go.Sort

/-- Numbers as cells. -/
def ivals (l : List Int) : List Value := l.map fun n => .int .i64 n
theorem ivals_get (l : List Int) (j : Nat) (h : j < l.length) : (ivals l)[j]? = some (.int .i64 l[j]) := by simp [ivals, h]
theorem ivals_length (l : List Int) : (ivals l).length = l.length := by simp [ivals]

/-- A message as a value; as cells. -/
def msgV (m : M.Msg) : Array Value := #[.int .i64 m.kind, .int .i64 m.a, .int .i64 m.b, .int .i64 m.c]
def packetV (p : M.Packet) : Array Value := #[.int .i64 p.session, .int .i64 p.epoch, .int .i64 p.seq, .int .i64 p.ack, .bool p.has, .int .i64 p.msg.kind, .int .i64 p.msg.a, .int .i64 p.msg.b, .int .i64 p.msg.c]

set_option maxRecDepth 100000 in
theorem kind_any (n : Int) (w : World) : Calls Tryd.prog 19 #[.int .i64 n] w fun e w' => e = .returned (.bool (M.kindOk n)) ∧ w' = w := by
  unfold M.kindOk
  by_cases h1 : 1 ≤ n
  · by_cases h2 : n ≤ 16
    · go_enter Tryd.func19, Tryd.ntmps19
      go_wp2
      go_ret
      simp [h1, h2]
    · go_enter Tryd.func19, Tryd.ntmps19
      go_wp2
      go_ret
      simp [h1, h2]
  · go_enter Tryd.func19, Tryd.ntmps19
    go_wp2
    go_ret
    simp; omega

/-- Are they within? -/
def withins (most : Int) (l : List Int) : Bool := l.all fun n => M.inside most n

set_option maxRecDepth 100000 in
theorem within_any (most : Int) (l : List Int) (a : Option Addr) (c : Nat) (w : World) (h : Rd w 1 (.slice a l.length c) l.length (ivals l)) (hl : l.length ≤ 1000) :
    Calls Tryd.prog 18 #[.int .i64 most, .slice a l.length c] w fun e w' => e = .returned (.bool (withins most l)) ∧ w' = w := by
  have HC := Lib.hid (show ∀ k, k < l.length → ∃ b off, a = some ⟨b, off, none⟩ ∧ w.cell? ⟨b, off + k, none⟩ = some (.int .i64 (l.getD k 0)) from by
    intro k hk
    obtain ⟨_, ⟨_, _, h0, _⟩ | ⟨b, off, cap, hv, _, _, _, hc⟩⟩ := h
    · omega
    · simp only [Value.slice.injEq, true_and] at hv
      obtain ⟨rfl, rfl⟩ := hv
      refine ⟨b, off, rfl, ?_⟩
      rw [hc k _ (ivals_get l k hk), List.getD_eq_getElem?_getD, List.getElem?_eq_getElem hk]; rfl)
  clear h
  go_enter Tryd.func18, Tryd.ntmps18
  go_wp2_with fail
  go_loop [9] (fun i => ∃ k : Nat, k ≤ l.length ∧ i = .int .i64 k ∧ withins most (l.take k) = true) (fun i => l.length - (intOf i).toNat)
  case atStart => exact ⟨0, Nat.zero_le _, rfl, rfl⟩
  case round =>
    obtain ⟨k, hk, rfl, hw⟩ := hrel
    have HW := Lib.hid hw
    clear hw
    by_cases hlt : k < l.length
    · obtain ⟨b, off, rfl, hc⟩ := HC.out k hlt
      have hs : l.take (k + 1) = l.take k ++ [l.getD k 0] := by
        rw [List.take_succ_eq_append_getElem hlt, List.getD_eq_getElem?_getD, List.getElem?_eq_getElem hlt]; rfl
      have hd : l = l.take k ++ l.getD k 0 :: l.drop (k + 1) := by
        have := List.take_append_drop k l
        rw [List.drop_eq_getElem_cons hlt] at this
        rw [List.getD_eq_getElem?_getD, List.getElem?_eq_getElem hlt]; exact this.symm
      have HS := Lib.hid hs
      have NO := Lib.hid (show M.inside most (l.getD k 0) = false → withins most l = false from fun hn => by
        rw [hd]; unfold withins; rw [List.all_append, List.all_cons, hn]; simp)
      clear hs hd
      generalize l.getD k 0 = x at *
      have i1 : (k : Int) < (l.length : Int) := by omega
      have i2 : (0 : Int) ≤ (k : Int) := by omega
      by_cases h0 : x < 0
      · go_wp2_with fail
        go_ret
        rw [NO.out (by simp [M.inside]; omega)]
        exact ⟨rfl, rfl⟩
      · by_cases h1 : most < x
        · go_wp2_with fail
          go_ret
          rw [NO.out (by simp [M.inside]; omega)]
          exact ⟨rfl, rfl⟩
        · go_wp2_with fail
          go_round
          case rel => exact ⟨k + 1, by omega, by go_num, by rw [HS.out]; unfold withins; rw [List.all_append]; have := HW.out; unfold withins at this; rw [this]; simp [M.inside]; omega⟩
          case measure => simp [intOf]; omega
    · have i1 : ¬ (k : Int) < (l.length : Int) := by omega
      go_wp2_with fail
      go_ret
      rw [List.take_of_length_le (by omega)] at HW
      rw [HW.out]
      exact ⟨rfl, rfl⟩

/-- .. of a literal. -/
theorem within1 (most x : Int) (N : Nat) (W : World) (hN : W.heap.size = N) :
    Calls Tryd.prog 18 #[.int .i64 most, .slice (some ⟨N, 0, none⟩) 1 1] (W.alloc (.cells #[.int .i64 x] 3)) fun e w' => e = .returned (.bool (M.inside most x)) ∧ w' = W.alloc (.cells #[.int .i64 x] 3) := by
  subst hN
  have h := lit_sl (w := W) (e := 3) (ivals [x]) 1 rfl (by omega) (by omega)
  refine (within_any most [x] _ _ _ h.rd (by simp)).mono ?_
  rintro e w' ⟨rfl, rfl⟩
  exact ⟨by simp [withins], rfl⟩
theorem within3 (most x y z : Int) (N : Nat) (W : World) (hN : W.heap.size = N) :
    Calls Tryd.prog 18 #[.int .i64 most, .slice (some ⟨N, 0, none⟩) 3 3] (W.alloc (.cells #[.int .i64 x, .int .i64 y, .int .i64 z] 3)) fun e w' => e = .returned (.bool (M.inside most x && M.inside most y && M.inside most z)) ∧ w' = W.alloc (.cells #[.int .i64 x, .int .i64 y, .int .i64 z] 3) := by
  subst hN
  have h := lit_sl (w := W) (e := 3) (ivals [x, y, z]) 3 rfl (by omega) (by omega)
  refine (within_any most [x, y, z] _ _ _ h.rd (by simp)).mono ?_
  rintro e w' ⟨rfl, rfl⟩
  exact ⟨by simp [withins, Bool.and_assoc], rfl⟩

/-- How the parts of a packet stand. -/
theorem good_eq (s ep sq ak : Int) (has : Bool) (k a b c : Int) : (⟨s, ep, sq, ak, has, ⟨k, a, b, c⟩⟩ : M.Packet).good =
    (M.inside 255 s && ((M.inside 65535 ep && M.inside 65535 sq && M.inside 65535 ak) && ((!has && (k == 0 && (a == 0 && (b == 0 && c == 0)))) || (has && (M.kindOk k && (M.inside 2147483647 a && M.inside 2147483647 b && M.inside 2147483647 c)))))) := by
  have e : decide ((⟨k, a, b, c⟩ : M.Msg) = M.Msg.zero) = (k == 0 && (a == 0 && (b == 0 && c == 0))) := by
    rw [Bool.eq_iff_iff]
    simp [M.Msg.zero]
  unfold M.Packet.good
  simp only [e]
  cases M.inside 255 s <;> cases M.inside 65535 ep <;> cases M.inside 65535 sq <;> cases M.inside 65535 ak <;> simp [Bool.and_assoc]

/-- What a body that keeps to new memory ends with. -/
theorem below3 (w : World) (a b c : Obj) : Below w.heap.size w (((w.alloc a).alloc b).alloc c) := (((Below.refl _ _).alloc (Nat.le_refl _) _).alloc (by simp) _).alloc (by simp; omega) _
theorem below4 (w : World) (a b c d : Obj) : Below w.heap.size w ((((w.alloc a).alloc b).alloc c).alloc d) := (below3 w a b c).alloc (by simp; omega) _

set_option maxRecDepth 100000 in
set_option maxHeartbeats 800000 in
theorem good_any (p : M.Packet) (w : World) : Calls Tryd.prog 10 #[.agg (packetV p)] w fun e w' => e = .returned (.bool p.good) ∧ Below w.heap.size w w' := by
  obtain ⟨s, ep, sq, ak, has, ⟨k, a, b, c⟩⟩ := p
  unfold packetV
  simp only
  rw [good_eq]
  by_cases h1 : M.inside 255 s = true
  · by_cases h2 : (M.inside 65535 ep && M.inside 65535 sq && M.inside 65535 ak) = true
    · cases has
      · rw [h1, h2]
        have H1 := Lib.hid h1
        have H2 := Lib.hid h2
        clear h1 h2
        go_enter Tryd.func10, Tryd.ntmps10
        go_wp2_with (first | (go_at_call 18; (with_reducible refine (within1 _ _ _ _ ?_).mono ?_); simp; rintro e w1 ⟨rfl, rfl⟩; rw [H1.out]) | (go_at_call 18; (with_reducible refine (within3 65535 _ _ _ _ _ ?_).mono ?_); simp; rintro e w1 ⟨rfl, rfl⟩; rw [H2.out]) | (go_at_call 18; (with_reducible refine (within3 2147483647 _ _ _ _ _ ?_).mono ?_); simp; rintro e w1 ⟨rfl, rfl⟩; rw [H4.out]) | (go_at_call 19; (with_reducible refine (kind_any _ _).mono ?_); rintro e w1 ⟨rfl, rfl⟩; rw [H3.out]) | fail)
        all_goals
          go_ret
          exact ⟨by simp [*], below4 w _ _ _ _⟩
      · by_cases h3 : M.kindOk k = true
        · by_cases h4 : (M.inside 2147483647 a && M.inside 2147483647 b && M.inside 2147483647 c) = true
          · rw [h1, h2, h3, h4]
            have H1 := Lib.hid h1
            have H2 := Lib.hid h2
            have H3 := Lib.hid h3
            have H4 := Lib.hid h4
            clear h1 h2 h3 h4
            go_enter Tryd.func10, Tryd.ntmps10
            go_wp2_with (first | (go_at_call 18; (with_reducible refine (within1 _ _ _ _ ?_).mono ?_); simp; rintro e w1 ⟨rfl, rfl⟩; rw [H1.out]) | (go_at_call 18; (with_reducible refine (within3 65535 _ _ _ _ _ ?_).mono ?_); simp; rintro e w1 ⟨rfl, rfl⟩; rw [H2.out]) | (go_at_call 18; (with_reducible refine (within3 2147483647 _ _ _ _ _ ?_).mono ?_); simp; rintro e w1 ⟨rfl, rfl⟩; rw [H4.out]) | (go_at_call 19; (with_reducible refine (kind_any _ _).mono ?_); rintro e w1 ⟨rfl, rfl⟩; rw [H3.out]) | fail)
            go_ret
            exact ⟨rfl, (below4 w _ _ _ _).alloc (by simp; omega) _⟩
          · rw [Bool.not_eq_true] at h4
            rw [h1, h2, h3, h4]
            have H1 := Lib.hid h1
            have H2 := Lib.hid h2
            have H3 := Lib.hid h3
            have H4 := Lib.hid h4
            clear h1 h2 h3 h4
            go_enter Tryd.func10, Tryd.ntmps10
            go_wp2_with (first | (go_at_call 18; (with_reducible refine (within1 _ _ _ _ ?_).mono ?_); simp; rintro e w1 ⟨rfl, rfl⟩; rw [H1.out]) | (go_at_call 18; (with_reducible refine (within3 65535 _ _ _ _ _ ?_).mono ?_); simp; rintro e w1 ⟨rfl, rfl⟩; rw [H2.out]) | (go_at_call 18; (with_reducible refine (within3 2147483647 _ _ _ _ _ ?_).mono ?_); simp; rintro e w1 ⟨rfl, rfl⟩; rw [H4.out]) | (go_at_call 19; (with_reducible refine (kind_any _ _).mono ?_); rintro e w1 ⟨rfl, rfl⟩; rw [H3.out]) | fail)
            go_ret
            exact ⟨rfl, (below4 w _ _ _ _).alloc (by simp; omega) _⟩
        · rw [Bool.not_eq_true] at h3
          rw [h1, h2, h3]
          have H1 := Lib.hid h1
          have H2 := Lib.hid h2
          have H3 := Lib.hid h3
          clear h1 h2 h3
          go_enter Tryd.func10, Tryd.ntmps10
          go_wp2_with (first | (go_at_call 18; (with_reducible refine (within1 _ _ _ _ ?_).mono ?_); simp; rintro e w1 ⟨rfl, rfl⟩; rw [H1.out]) | (go_at_call 18; (with_reducible refine (within3 65535 _ _ _ _ _ ?_).mono ?_); simp; rintro e w1 ⟨rfl, rfl⟩; rw [H2.out]) | (go_at_call 18; (with_reducible refine (within3 2147483647 _ _ _ _ _ ?_).mono ?_); simp; rintro e w1 ⟨rfl, rfl⟩; rw [H4.out]) | (go_at_call 19; (with_reducible refine (kind_any _ _).mono ?_); rintro e w1 ⟨rfl, rfl⟩; rw [H3.out]) | fail)
          go_ret
          exact ⟨rfl, below4 w _ _ _ _⟩
    · rw [Bool.not_eq_true] at h2
      rw [h1, h2]
      have H1 := Lib.hid h1
      have H2 := Lib.hid h2
      clear h1 h2
      go_enter Tryd.func10, Tryd.ntmps10
      go_wp2_with (first | (go_at_call 18; (with_reducible refine (within1 _ _ _ _ ?_).mono ?_); simp; rintro e w1 ⟨rfl, rfl⟩; rw [H1.out]) | (go_at_call 18; (with_reducible refine (within3 65535 _ _ _ _ _ ?_).mono ?_); simp; rintro e w1 ⟨rfl, rfl⟩; rw [H2.out]) | (go_at_call 18; (with_reducible refine (within3 2147483647 _ _ _ _ _ ?_).mono ?_); simp; rintro e w1 ⟨rfl, rfl⟩; rw [H4.out]) | (go_at_call 19; (with_reducible refine (kind_any _ _).mono ?_); rintro e w1 ⟨rfl, rfl⟩; rw [H3.out]) | fail)
      go_ret
      exact ⟨rfl, below4 w _ _ _ _⟩
  · rw [Bool.not_eq_true] at h1
    rw [h1]
    have H1 := Lib.hid h1
    clear h1
    go_enter Tryd.func10, Tryd.ntmps10
    go_wp2_with (first | (go_at_call 18; (with_reducible refine (within1 _ _ _ _ ?_).mono ?_); simp; rintro e w1 ⟨rfl, rfl⟩; rw [H1.out]) | (go_at_call 18; (with_reducible refine (within3 65535 _ _ _ _ _ ?_).mono ?_); simp; rintro e w1 ⟨rfl, rfl⟩; rw [H2.out]) | (go_at_call 18; (with_reducible refine (within3 2147483647 _ _ _ _ _ ?_).mono ?_); simp; rintro e w1 ⟨rfl, rfl⟩; rw [H4.out]) | (go_at_call 19; (with_reducible refine (kind_any _ _).mono ?_); rintro e w1 ⟨rfl, rfl⟩; rw [H3.out]) | fail)
    go_ret
    exact ⟨rfl, below3 w _ _ _⟩
end Go.Proofs.YtclgnginmgleaaaDoor
