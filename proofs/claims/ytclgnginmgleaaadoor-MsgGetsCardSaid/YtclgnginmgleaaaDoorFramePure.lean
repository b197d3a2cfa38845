/-
  Plain mathematics of frames in a stream, without Go.
-/
import Derived.Test.YtclgnginmgleaaaDoorCrcPure
namespace Go.Proofs.YtclgnginmgleaaaDoor.Fr

def bv (l : List UInt8) : List (BitVec 8) := l.map UInt8.toBitVec
def crc (l : List UInt8) : BitVec 32 := Crc.sum (bv l)
def byteAt (x : BitVec 32) (k : Nat) : UInt8 := UInt8.ofBitVec ((x >>> k).setWidth 8)
def sum4 (l : List UInt8) : List UInt8 := [byteAt (crc l) 24, byteAt (crc l) 16, byteAt (crc l) 8, byteAt (crc l) 0]
def headed (p : List UInt8) : List UInt8 := 165 :: UInt8.ofNat p.length :: p
def frameOf (p : List UInt8) : List UInt8 := headed p ++ sum4 (headed p)

theorem sum4_length (l : List UInt8) : (sum4 l).length = 4 := rfl
theorem headed_length (p : List UInt8) : (headed p).length = p.length + 2 := rfl
theorem frameOf_length (p : List UInt8) : (frameOf p).length = p.length + 6 := by simp [frameOf, headed_length, sum4_length]

def okCount (n : UInt8) : Bool := decide (1 ≤ n.toNat) && decide (n.toNat ≤ 64)

/-- What stands at the head of what waits: 0: more has to come; k and none: so many go; k and a payload: a frame of so many. -/
def look (b : List UInt8) : Nat × Option (List UInt8) :=
  match b with
  | [] => (0, none)
  | m :: r =>
    if m ≠ 165 then (1, none)
    else match r with
    | [] => (0, none)
    | n :: q =>
      if okCount n = false then (1, none)
      else if q.length < n.toNat + 4 then (0, none)
      else if sum4 (m :: n :: q.take n.toNat) = (q.drop n.toNat).take 4 then (n.toNat + 6, some (q.take n.toNat)) else (1, none)

theorem look_le (b : List UInt8) : (look b).1 ≤ b.length := by
  unfold look
  split
  · simp
  · split
    · simp
    · split
      · simp
      · split
        · simp
        · split
          · simp
          · split
            · simp; omega
            · simp

theorem look_payload (b : List UInt8) (n : Nat) (p : List UInt8) (h : look b = (n, some p)) : n = p.length + 6 ∧ 1 ≤ p.length ∧ p.length ≤ 64 ∧ b.take n = frameOf p := by
  unfold look at h
  split at h
  · simp at h
  · rename_i m r
    split at h
    · simp at h
    · rename_i hm
      split at h
      · simp at h
      · rename_i c q
        split at h
        · simp at h
        · rename_i hc
          split at h
          · simp at h
          · rename_i hl
            split at h
            · rename_i hs
              simp only [Prod.mk.injEq, Option.some.injEq] at h
              obtain ⟨rfl, rfl⟩ := h
              have hm' : m = 165 := by simpa using hm
              subst hm'
              have hc' : 1 ≤ c.toNat ∧ c.toNat ≤ 64 := by simpa [okCount] using hc
              have hlen : (q.take c.toNat).length = c.toNat := by rw [List.length_take]; omega
              refine ⟨by rw [hlen], by omega, by omega, ?_⟩
              unfold frameOf headed
              rw [hlen]
              have hcc : UInt8.ofNat c.toNat = c := by simp
              rw [hcc, hs]
              have e : c.toNat + 6 = c.toNat + 4 + 1 + 1 := by omega
              rw [e, List.take_succ_cons, List.take_succ_cons, List.take_add]
              simp
            · simp at h

theorem look_frame (p t : List UInt8) (h1 : 1 ≤ p.length) (h2 : p.length ≤ 64) : look (frameOf p ++ t) = (p.length + 6, some p) := by
  have hc : (UInt8.ofNat p.length).toNat = p.length := by simp; omega
  unfold look frameOf headed
  simp only [List.cons_append, ne_eq, not_true_eq_false, if_false]
  rw [if_neg (by simp [okCount, hc]; omega), if_neg (by simp [hc, sum4_length])]
  rw [hc]
  have e1 : (p ++ sum4 (165 :: UInt8.ofNat p.length :: p) ++ t).take p.length = p := by
    rw [List.append_assoc, List.take_left]
  have e2 : ((p ++ sum4 (165 :: UInt8.ofNat p.length :: p) ++ t).drop p.length).take 4 = sum4 (165 :: UInt8.ofNat p.length :: p) := by
    rw [List.append_assoc, List.drop_left]
    have : (4 : Nat) = (sum4 (165 :: UInt8.ofNat p.length :: p)).length := rfl
    rw [this, List.take_left]
  rw [e1, e2, if_pos rfl]

theorem look_append (a b : List UInt8) (h : (look a).1 ≠ 0) : look (a ++ b) = look a := by
  unfold look at h ⊢
  cases a with
  | nil => simp at h
  | cons m r =>
    simp only [List.cons_append] at h ⊢
    by_cases hm : m ≠ 165
    · simp [hm]
    · rw [if_neg hm] at h ⊢
      rw [if_neg hm]
      cases r with
      | nil => simp at h
      | cons n q =>
        simp only [List.cons_append] at h ⊢
        by_cases hc : okCount n = false
        · simp [hc]
        · rw [if_neg hc] at h ⊢
          rw [if_neg hc]
          by_cases hl : q.length < n.toNat + 4
          · simp [hl] at h
          · rw [if_neg hl, if_neg (by simp; omega)]
            have e1 : (q ++ b).take n.toNat = q.take n.toNat := by rw [List.take_append_of_le_length (by omega)]
            have e2 : ((q ++ b).drop n.toNat).take 4 = (q.drop n.toNat).take 4 := by
              rw [List.drop_append_of_le_length (by omega), List.take_append_of_le_length (by simp; omega)]
            rw [e1, e2]

/-- The payloads of what waits, and what is left. -/
def framesF : Nat → List UInt8 → List (List UInt8) × List UInt8
  | 0, b => ([], b)
  | k + 1, b =>
    match look b with
    | (0, _) => ([], b)
    | (n, none) => framesF k (b.drop n)
    | (n, some p) => let r := framesF k (b.drop n); (p :: r.1, r.2)
def frames (b : List UInt8) : List (List UInt8) × List UInt8 := framesF b.length b

theorem framesF_enough (k : Nat) : ∀ (b : List UInt8) (j : Nat), b.length ≤ k → b.length ≤ j → framesF k b = framesF j b := by
  induction k with
  | zero =>
    intro b j hk hj
    have : b = [] := by cases b with
      | nil => rfl
      | cons x l => simp at hk
    subst this
    cases j <;> simp [framesF, look]
  | succ k ih =>
    intro b j hk hj
    cases b with
    | nil => cases j <;> simp [framesF, look]
    | cons x l =>
      cases j with
      | zero => simp at hj
      | succ j =>
        simp only [framesF]
        have hle := look_le (x :: l)
        rcases hlk : look (x :: l) with ⟨n, o⟩
        rw [hlk] at hle
        simp only at hle
        cases n with
        | zero => rfl
        | succ n =>
          have hd : ((x :: l).drop (n + 1)).length ≤ k := by simp at hk ⊢; omega
          have hd' : ((x :: l).drop (n + 1)).length ≤ j := by simp at hj ⊢; omega
          cases o with
          | none => exact ih _ _ hd hd'
          | some p => simp only [ih _ _ hd hd']

theorem frames_more (b : List UInt8) (h : (look b).1 = 0) : frames b = ([], b) := by
  unfold frames
  cases b with
  | nil => rfl
  | cons x l =>
    simp only [List.length_cons, framesF]
    rcases hlk : look (x :: l) with ⟨n, o⟩
    rw [hlk] at h
    simp only at h
    subst h
    rfl

theorem frames_skip (b : List UInt8) (n : Nat) (h : look b = (n, none)) (hn : n ≠ 0) : frames b = frames (b.drop n) := by
  unfold frames
  cases b with
  | nil => simp [look] at h; omega
  | cons x l =>
    simp only [List.length_cons, framesF, h]
    cases n with
    | zero => exact absurd rfl hn
    | succ n => exact framesF_enough _ _ _ (by simp) (Nat.le_refl _)

theorem frames_take (b : List UInt8) (n : Nat) (p : List UInt8) (h : look b = (n, some p)) : frames b = (p :: (frames (b.drop n)).1, (frames (b.drop n)).2) := by
  have hn := (look_payload b n p h).1
  unfold frames
  cases b with
  | nil => simp [look] at h
  | cons x l =>
    simp only [List.length_cons, framesF, h]
    cases n with
    | zero => omega
    | succ n =>
      simp only
      rw [framesF_enough _ _ _ (show ((x :: l).drop (n + 1)).length ≤ l.length by simp) (Nat.le_refl _)]

/-- Whatever parts bytes come in. -/
theorem frames_append (a b : List UInt8) : frames (a ++ b) = ((frames a).1 ++ (frames ((frames a).2 ++ b)).1, (frames ((frames a).2 ++ b)).2) := by
  have key : ∀ k (a : List UInt8), a.length ≤ k → frames (a ++ b) = ((frames a).1 ++ (frames ((frames a).2 ++ b)).1, (frames ((frames a).2 ++ b)).2) := by
    intro k
    induction k with
    | zero =>
      intro a ha
      have : a = [] := by cases a with
        | nil => rfl
        | cons x l => simp at ha
      subst this
      simp [frames, framesF]
    | succ k ih =>
      intro a ha
      by_cases h0 : (look a).1 = 0
      · rw [frames_more a h0]; simp
      · have hap := look_append a b h0
        rcases hlk : look a with ⟨n, o⟩
        have hle := look_le a
        rw [hlk] at h0 hle
        simp only at h0 hle
        have hd : (a ++ b).drop n = a.drop n ++ b := List.drop_append_of_le_length hle
        have hlen : (a.drop n).length ≤ k := by simp; omega
        cases o with
        | none => rw [frames_skip a n hlk h0, frames_skip (a ++ b) n (by rw [hap, hlk]) h0, hd, ih _ hlen]
        | some p =>
          rw [frames_take a n p hlk, frames_take (a ++ b) n p (by rw [hap, hlk]), hd, ih _ hlen]
          simp
  exact key _ a (Nat.le_refl _)

theorem frames_one (p t : List UInt8) (h1 : 1 ≤ p.length) (h2 : p.length ≤ 64) : frames (frameOf p ++ t) = (p :: (frames t).1, (frames t).2) := by
  rw [frames_take _ _ _ (look_frame p t h1 h2)]
  rw [show (frameOf p ++ t).drop (p.length + 6) = t by rw [← frameOf_length p, List.drop_left]]

theorem frames_junk (j t : List UInt8) (h : ∀ x ∈ j, x ≠ 165) : frames (j ++ t) = frames t := by
  induction j with
  | nil => rfl
  | cons x j ih =>
    rw [List.cons_append, frames_skip (x :: (j ++ t)) 1 (by unfold look; simp [h x (by simp)]) (by omega)]
    exact ih fun y hy => h y (by simp [hy])

/-- The next payload of what waits, and what waits then. -/
def nextF : Nat → List UInt8 → Option (List UInt8) × List UInt8
  | 0, b => (none, b)
  | k + 1, b =>
    match look b with
    | (0, _) => (none, b)
    | (n, none) => nextF k (b.drop n)
    | (n, some p) => (some p, b.drop n)
def next (b : List UInt8) : Option (List UInt8) × List UInt8 := nextF b.length b

theorem nextF_enough (k : Nat) : ∀ (b : List UInt8) (j : Nat), b.length ≤ k → b.length ≤ j → nextF k b = nextF j b := by
  induction k with
  | zero =>
    intro b j hk hj
    have : b = [] := by cases b with
      | nil => rfl
      | cons x l => simp at hk
    subst this
    cases j <;> simp [nextF, look]
  | succ k ih =>
    intro b j hk hj
    cases b with
    | nil => cases j <;> simp [nextF, look]
    | cons x l =>
      cases j with
      | zero => simp at hj
      | succ j =>
        simp only [nextF]
        rcases hlk : look (x :: l) with ⟨n, o⟩
        cases n with
        | zero => rfl
        | succ n =>
          have hd : ((x :: l).drop (n + 1)).length ≤ k := by simp at hk ⊢; omega
          have hd' : ((x :: l).drop (n + 1)).length ≤ j := by simp at hj ⊢; omega
          cases o with
          | none => exact ih _ _ hd hd'
          | some p => rfl

theorem next_more (b : List UInt8) (h : (look b).1 = 0) : next b = (none, b) := by
  unfold next
  cases b with
  | nil => rfl
  | cons x l =>
    simp only [List.length_cons, nextF]
    rcases hlk : look (x :: l) with ⟨n, o⟩
    rw [hlk] at h
    simp only at h
    subst h
    rfl

theorem next_skip (b : List UInt8) (n : Nat) (h : look b = (n, none)) (hn : n ≠ 0) : next b = next (b.drop n) := by
  unfold next
  cases b with
  | nil => simp [look] at h; omega
  | cons x l =>
    simp only [List.length_cons, nextF, h]
    cases n with
    | zero => exact absurd rfl hn
    | succ n => exact nextF_enough _ _ _ (by simp) (Nat.le_refl _)

theorem next_take (b : List UInt8) (n : Nat) (p : List UInt8) (h : look b = (n, some p)) : next b = (some p, b.drop n) := by
  have hn := (look_payload b n p h).1
  unfold next
  cases b with
  | nil => simp [look] at h
  | cons x l =>
    simp only [List.length_cons, nextF, h]
    cases n with
    | zero => omega
    | succ n => rfl

theorem next_frames (b : List UInt8) : frames b = match next b with
    | (none, r) => ([], r)
    | (some p, r) => (p :: (frames r).1, (frames r).2) := by
  have key : ∀ k (b : List UInt8), b.length ≤ k → frames b = match next b with
      | (none, r) => ([], r)
      | (some p, r) => (p :: (frames r).1, (frames r).2) := by
    intro k
    induction k with
    | zero =>
      intro b hb
      have : b = [] := by cases b with
        | nil => rfl
        | cons x l => simp at hb
      subst this
      rfl
    | succ k ih =>
      intro b hb
      by_cases h0 : (look b).1 = 0
      · rw [frames_more b h0, next_more b h0]
      · rcases hlk : look b with ⟨n, o⟩
        have hle := look_le b
        rw [hlk] at h0 hle
        simp only at h0 hle
        cases o with
        | none => rw [frames_skip b n hlk h0, next_skip b n hlk h0]; exact ih _ (by simp; omega)
        | some p => rw [frames_take b n p hlk, next_take b n p hlk]
  exact key _ b (Nat.le_refl _)

theorem next_none (b : List UInt8) (h : (next b).1 = none) : frames b = ([], (next b).2) := by
  rw [next_frames b]
  rcases hn : next b with ⟨o, r⟩
  rw [hn] at h
  have h' : o = _ := h
  subst h'
  rfl
theorem next_some (b p : List UInt8) (h : (next b).1 = some p) : frames b = (p :: (frames (next b).2).1, (frames (next b).2).2) := by
  rw [next_frames b]
  rcases hn : next b with ⟨o, r⟩
  rw [hn] at h
  have h' : o = _ := h
  subst h'
  rfl

theorem next_length (b : List UInt8) : (next b).2.length ≤ b.length := by
  have key : ∀ k (b : List UInt8), b.length ≤ k → (next b).2.length ≤ b.length := by
    intro k
    induction k with
    | zero =>
      intro b hb
      have : b = [] := by cases b with
        | nil => rfl
        | cons x l => simp at hb
      subst this
      simp [next, nextF]
    | succ k ih =>
      intro b hb
      by_cases h0 : (look b).1 = 0
      · rw [next_more b h0]; exact Nat.le_refl _
      · rcases hlk : look b with ⟨n, o⟩
        have hle := look_le b
        rw [hlk] at h0 hle
        simp only at h0 hle
        cases o with
        | none =>
          rw [next_skip b n hlk h0]
          have := ih (b.drop n) (by simp; omega)
          simp at this; omega
        | some p => rw [next_take b n p hlk]; simp
  exact key _ b (Nat.le_refl _)

/-- A payload that comes out stood in its frame. -/
theorem next_stood (b p : List UInt8) (h : (next b).1 = some p) : ∃ s t, b = s ++ frameOf p ++ t ∧ 1 ≤ p.length ∧ p.length ≤ 64 ∧ (next b).2 = t := by
  have key : ∀ k (b : List UInt8), b.length ≤ k → (next b).1 = some p → ∃ s t, b = s ++ frameOf p ++ t ∧ 1 ≤ p.length ∧ p.length ≤ 64 ∧ (next b).2 = t := by
    intro k
    induction k with
    | zero =>
      intro b hb h
      have : b = [] := by cases b with
        | nil => rfl
        | cons x l => simp at hb
      subst this
      simp [next, nextF] at h
    | succ k ih =>
      intro b hb h
      by_cases h0 : (look b).1 = 0
      · rw [next_more b h0] at h; simp at h
      · rcases hlk : look b with ⟨n, o⟩
        have hle := look_le b
        rw [hlk] at h0 hle
        simp only at h0 hle
        cases o with
        | none =>
          rw [next_skip b n hlk h0] at h ⊢
          obtain ⟨s, t, he, hr⟩ := ih (b.drop n) (by simp; omega) h
          refine ⟨b.take n ++ s, t, ?_, hr⟩
          have := List.take_append_drop n b
          rw [he] at this
          simpa using this.symm
        | some q =>
          rw [next_take b n q hlk] at h ⊢
          simp only [Option.some.injEq] at h
          subst h
          obtain ⟨_, a1, a2, ht⟩ := look_payload b n q hlk
          exact ⟨[], b.drop n, by rw [List.nil_append, ← ht, List.take_append_drop], a1, a2, rfl⟩
  exact key _ b (Nat.le_refl _) h

end Go.Proofs.YtclgnginmgleaaaDoor.Fr
