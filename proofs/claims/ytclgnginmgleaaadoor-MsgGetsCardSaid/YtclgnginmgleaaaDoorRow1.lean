/-
  What a law's walk is told of its arguments.
-/
import Derived.Test.YtclgnginmgleaaaDoorLib
import Derived.SizedLaws
import Derived.Deep.Matrix
namespace Go.Proofs.YtclgnginmgleaaaDoor
open Go Go.RowKit

/-- A slice of integers that came in. -/
def IsRow (k : IntKind) (w : World) (a : Option Addr) (len cap : Nat) (zs : List Int) : Prop :=
  (a = none ∧ len = 0 ∧ cap = 0 ∧ zs = []) ∨
  ∃ x, a = some x ∧ len ≤ cap ∧ cap ≤ maxLen ∧ zs.length = cap ∧ (∀ i, i < zs.length → w.cell? (x.add i) = some (.int k (zs.getD i 0))) ∧ ∀ n ∈ zs, (Lit.int k n).wf = true

/-- A slice of slices of bytes that came in. -/
def IsRows (w : World) (a : Option Addr) (len cap : Nat) (A : Nat → Option Addr) (L C : Nat → Nat) (Z : Nat → List Int) : Prop :=
  (a = none ∧ len = 0 ∧ cap = 0) ∨
  ∃ x, a = some x ∧ len ≤ cap ∧ cap ≤ maxLen ∧ ∀ r, r < cap → w.cell? (x.add r) = some (.slice (A r) (L r) (C r)) ∧ L r ≤ C r ∧ C r ≤ maxLen ∧ (Z r).length = C r ∧ (∀ n ∈ Z r, (Lit.int .u8 n).wf = true) ∧ (A r = none → C r = 0) ∧
    ∀ a', A r = some a' → 0 ≤ a'.block ∧ ∀ c, c < C r → w.cell? (a'.add c) = some (.int .u8 ((Z r).getD c 0))

theorem u8_range {n : Int} (h : (Lit.int .u8 n).wf = true) : 0 ≤ n ∧ n ≤ 255 := by
  simp [Lit.wf, IntKind.min, IntKind.max, IntKind.signed, IntKind.bits] at h
  omega

theorem cells_rd {w : World} {x : Addr} {len cap : Nat} {zs : List Int} (hl : len ≤ cap) (hm : cap ≤ maxLen) (hz : zs.length = cap) (hc : ∀ i, i < zs.length → w.cell? (x.add i) = some (.int .u8 (zs.getD i 0))) (hw : ∀ n ∈ zs, (Lit.int .u8 n).wf = true) :
    ∃ l : List UInt8, l.length = len ∧ Rd w 1 (.slice (some x) len cap) len (bvals l) := by
  refine ⟨(zs.take len).map fun n => UInt8.ofNat n.toNat, by simp; omega, by simp [bvals]; omega, ?_⟩
  rcases Nat.eq_zero_or_pos len with h0 | h0
  · subst h0; exact .inl ⟨_, _, rfl, rfl⟩
  · obtain ⟨b, off, spot⟩ := x
    have h1 := hc 0 (by omega)
    have hspot : spot = none := by simpa [Addr.add] using World.cell?_spot h1
    subst hspot
    refine .inr ⟨b, off, cap, rfl, h0, hl, hm, fun j u hj => ?_⟩
    simp only [bvals, List.map_map, List.getElem?_map, Option.map_eq_some_iff] at hj
    obtain ⟨n, hn, rfl⟩ := hj
    have hjl : j < (zs.take len).length := (List.getElem?_eq_some_iff.1 hn).1
    have hjz : j < zs.length := by rw [List.length_take] at hjl; omega
    have hnz : zs.getD j 0 = n := by
      rw [List.getElem?_take_of_lt (by rw [List.length_take] at hjl; omega)] at hn
      rw [List.getD_eq_getElem?_getD, hn]; rfl
    have h2 := hc j hjz
    rw [Addr.add_lit, hnz] at h2
    rw [h2]
    have hr := u8_range (hw n (by rw [← hnz, List.getD_eq_getElem?_getD, List.getElem?_eq_getElem hjz]; exact List.getElem_mem _))
    simp; omega

theorem IsRow.rd {w : World} {a : Option Addr} {len cap : Nat} {zs : List Int} (h : IsRow .u8 w a len cap zs) : ∃ l : List UInt8, l.length = len ∧ Rd w 1 (.slice a len cap) len (bvals l) := by
  rcases h with ⟨rfl, rfl, rfl, rfl⟩ | ⟨x, rfl, hl, hm, hz, hc, hw⟩
  · exact ⟨[], rfl, rfl, .inl ⟨_, _, rfl, rfl⟩⟩
  · exact cells_rd hl hm hz hc hw

end Go.Proofs.YtclgnginmgleaaaDoor
