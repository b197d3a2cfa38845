/-
  The law FrameFinds: for every input the Go function returns true, and each argument reads as it did. No condition.
-/
import Derived.Test.YtclgnginmgleaaaRows
import Derived.Test.YtclgnginmgleaaaFinds
import Derived.WalkKit
import Derived.ProofKit
import Derived.OpenShut
import Derived.ShutString
import Derived.ChangeOld
import Derived.Below
import Derived.SizedLaws
import Derived.Deep.Matrix
namespace Go.Proofs.Ytclgnginmgleaaa.frameFinds
open Go.ChangeShapes Go.WideShapes Go.ChangeAt Go.RowKit Go.Deep
open Go.ChangeMaps (open_string shut_string)
set_option linter.unusedVariables false

theorem own : ownKnob Try.prog.godebug = none := by kernel_rfl
theorem laidOut : laidOutB Try.prog = true := by kernel_rfl
theorem bytesE : Try.prog.bytesOf 5 = 1 := by kernel_rfl

theorem walk (a0 : Option Addr) (len0 cap0 : Nat) (A0 : Nat → Option Addr) (L0 C0 : Nat → Nat) (Z0 : Nat → List Int) (a1 : Option Addr) (len1 cap1 : Nat) (z1 : List Int) (a2 : Option Addr) (len2 cap2 : Nat) (z2 : List Int) (w : World) (w0 : IsRows w a0 len0 cap0 A0 L0 C0 Z0) (sz0 : len0 ≤ 140737488351232 / 24)  (w1 : IsRow .u8 w a1 len1 cap1 z1) (sz1 : len1 ≤ 140737488351232) (w2 : IsRow .u8 w a2 len2 cap2 z2) (sz2 : len2 ≤ 140737488351232) :
    Calls Try.prog 8 #[.slice a0 len0 cap0, .slice a1 len1 cap1, .slice a2 len2 cap2] w fun e w' => e = .returned (.bool true) ∧ Below w.heap.size w w' := by
  obtain ⟨ps, vals, e0, h0⟩ := w0.rd
  obtain ⟨l1, e1, h1⟩ := w1.rd
  obtain ⟨l2, e2, h2⟩ := w2.rd
  subst e0
  subst e1
  subst e2
  exact frameFinds_walk ps vals l1 l2 a0 a1 a2 cap0 cap1 cap2 w h0 h1 h2 (by omega) (by omega) (by omega)

set_option maxRecDepth 100000 in
theorem lifted (os : Os) (started : os.Started) (H : Type) (enc : TypeId × Value → H) :
    ReturnsInHanded {} Try.checked os 8 .any (Rows.frameFindsSpec.pre6 enc Try.prog Try.f8 Rows.frameFindsRow.domain false) (Rows.frameFindsSpec.post enc Try.prog Try.f8 false true false false) := by
  refine returnsInHanded_of_change_sized (C := Try.checked) own started (by kernel_rfl) Try.func8
    (ChangeSpec.witness6 (enc := enc) (C := Try.checked) false ⟨#[], #[.slice none 0 0, .slice none 0 0, .slice none 0 0], []⟩ 8 (by kernel_rfl) (by kernel_rfl) (by kernel_rfl) (by kernel_rfl)) ?_
  intro W base args ds gs before hval0 hW hcnd hsz0 _
  have hsz : (DataW.weightsEach Try.prog (Try.f8.params.toList ++ Rows.frameFindsSpec.plain.varTypes Try.prog) (ds ++ gs)).all (· ≤ reachBytes) = true := hsz0
  clear hsz0
  have hval : ∀ (j : Nat) t v, Try.f8.params[j]? = some t → args[j]? = some v → Value.okWide Try.prog W .any base t v := hval0
  have hW' := hW
  obtain ⟨p, q, hA0, hV, rfl, hfz, hnd⟩ := hW
  have hA : DataW.TrodAll enc Try.prog W 0 (fun _ => true) true Try.f8.params.toList args.toList ds p := hA0
  rw [Try.params8] at hA hval hsz
  obtain ⟨v0, vs0, d0, ds0, p0, q0, hargs, rfl, rfl, h0, r0⟩ := trodAll_cons hA
  obtain ⟨v1, vs1, d1, ds1, p1, q1, rfl, rfl, rfl, h1, r1⟩ := trodAll_cons r0
  obtain ⟨v2, vs2, d2, ds2, p2, q2, rfl, rfl, rfl, h2, r2⟩ := trodAll_cons r1
  obtain ⟨rfl, rfl, rfl⟩ := trodAll_nil r2
  obtain rfl : args = #[v0, v1, v2] := by cases args; simp_all
  obtain ⟨rfl, rfl⟩ := trodVars_none hV
  obtain ⟨a0, len0, cap0, rfl⟩ := okWide_slice Try.underlying37 (hval 0 37 v0 rfl rfl)
  have k0 := h0
  have lt0 : ∀ x ∈ p0, x.block < W.heap.size := by obtain ⟨m, hm⟩ := k0; exact DataW.trod_lt m _ _ _ hm
  obtain ⟨A0, L0, C0, Z0, w0, sz0⟩ : ∃ A L C Z, IsRows W a0 len0 cap0 A L C Z ∧ len0 ≤ 140737488351232 / 24 := by
    obtain ⟨fuel, hf⟩ := h0
    rcases open_int_rows Try.underlying37 Try.underlying22 Try.underlying5 (by kernel_rfl) (by kernel_rfl) hf with ⟨hcs, _⟩ | ⟨x, l, c, A, L, C, Z, hcs, _, hl, hm, hx, hcell⟩
    · simp [Value.cells] at hcs
      obtain ⟨rfl, rfl, rfl⟩ := hcs
      exact ⟨fun _ => none, fun _ => 0, fun _ => 0, fun _ => [], .inl ⟨rfl, rfl, rfl⟩, by omega⟩
    · simp [Value.cells] at hcs
      obtain ⟨rfl, rfl, rfl⟩ := hcs
      simp only [Prod.mk.injEq] at hx
      have hb := sized_slice hsz (j := 0) (t := 37) (e := 22) rfl (by rw [hx.1]; rfl) Try.underlying37
      rw [show Try.prog.bytesOf 22 = 24 by kernel_rfl] at hb
      simp only [List.length_map, List.length_range, reachBytes] at hb
      exact ⟨A, L, C, Z, .inr ⟨_, rfl, hl, hm, hcell⟩, by omega⟩
  obtain ⟨a1, len1, cap1, rfl⟩ := okWide_slice Try.underlying22 (hval 1 22 v1 rfl rfl)
  have k1 := h1
  have lt1 : ∀ x ∈ p1, x.block < W.heap.size := by obtain ⟨m, hm⟩ := k1; exact DataW.trod_lt m _ _ _ hm
  obtain ⟨z1, w1, sz1⟩ : ∃ zs, IsRow .u8 W a1 len1 cap1 zs ∧ len1 ≤ 140737488351232 := by
    obtain ⟨fuel, hf⟩ := h1
    rcases open_ints Try.underlying22 Try.underlying5 (by kernel_rfl) hf with ⟨hcs, _⟩ | ⟨x, l, c, zs, hcs, _, hl, hm, hz, hx, hcell, hwz⟩
    · simp [Value.cells] at hcs
      obtain ⟨rfl, rfl, rfl⟩ := hcs
      exact ⟨[], .inl ⟨rfl, rfl, rfl, rfl⟩, by omega⟩
    · simp [Value.cells] at hcs
      obtain ⟨rfl, rfl, rfl⟩ := hcs
      have hzl : zs.length = cap1 := by simpa using hz
      refine ⟨zs, .inr ⟨_, rfl, hl, hm, hzl, hcell, hwz⟩, ?_⟩
      simp only [Prod.mk.injEq] at hx
      have hb := sized_slice hsz (j := 1) (t := 22) (e := 5) rfl (by rw [hx.1]; rfl) Try.underlying22
      rw [bytesE] at hb
      simp only [lits, List.length_map, List.length_take, List.length_drop, reachBytes] at hb
      omega
  obtain ⟨a2, len2, cap2, rfl⟩ := okWide_slice Try.underlying22 (hval 2 22 v2 rfl rfl)
  have k2 := h2
  have lt2 : ∀ x ∈ p2, x.block < W.heap.size := by obtain ⟨m, hm⟩ := k2; exact DataW.trod_lt m _ _ _ hm
  obtain ⟨z2, w2, sz2⟩ : ∃ zs, IsRow .u8 W a2 len2 cap2 zs ∧ len2 ≤ 140737488351232 := by
    obtain ⟨fuel, hf⟩ := h2
    rcases open_ints Try.underlying22 Try.underlying5 (by kernel_rfl) hf with ⟨hcs, _⟩ | ⟨x, l, c, zs, hcs, _, hl, hm, hz, hx, hcell, hwz⟩
    · simp [Value.cells] at hcs
      obtain ⟨rfl, rfl, rfl⟩ := hcs
      exact ⟨[], .inl ⟨rfl, rfl, rfl, rfl⟩, by omega⟩
    · simp [Value.cells] at hcs
      obtain ⟨rfl, rfl, rfl⟩ := hcs
      have hzl : zs.length = cap2 := by simpa using hz
      refine ⟨zs, .inr ⟨_, rfl, hl, hm, hzl, hcell, hwz⟩, ?_⟩
      simp only [Prod.mk.injEq] at hx
      have hb := sized_slice hsz (j := 2) (t := 22) (e := 5) rfl (by rw [hx.1]; rfl) Try.underlying22
      rw [bytesE] at hb
      simp only [lits, List.length_map, List.length_take, List.length_drop, reachBytes] at hb
      omega
  clear hA0 hval0
  refine (walk a0 len0 cap0 A0 L0 C0 Z0 a1 len1 cap1 z1 a2 len2 cap2 z2 W w0 sz0 w1 sz1 w2 sz2).mono fun e W' ⟨he, bel⟩ => ?_
  subst he
  exact ⟨_, rfl, _, _, _, [], _, [], hW', trodAll_mk1 (shut_bool Try.underlying4 _), (trodAll_cons_mk (Below.trod laidOut (by kernel_rfl) (of_decide_eq_true (by kernel_rfl)) k0 bel lt0) (trodAll_cons_mk (Below.trod laidOut (by kernel_rfl) (of_decide_eq_true (by kernel_rfl)) k1 bel lt1) (trodAll_cons_mk (Below.trod laidOut (by kernel_rfl) (of_decide_eq_true (by kernel_rfl)) k2 bel lt2) trodAll_mk0))), rfl, bel.frame _, fun h => by cases h⟩

theorem over : Rows.frameFindsRow.holds Try.pinned (OpenSpec.ofChange Rows.frameFindsSpec) :=
  OpenClaim.holds_of_wide 8 Try.f8 rfl rfl rfl rfl rfl rfl rfl ⟨rfl, rfl, rfl, rfl, rfl⟩ rfl rfl rfl rfl rfl (by kernel_rfl) Try.func8 (by kernel_rfl)
    (of_decide_eq_true (by kernel_rfl)) (by unfold Func.isWrapper; first | (rw [if_pos (by decide +kernel)]; kernel_rfl) | (rw [if_neg (by decide +kernel)]; exact ⟨rfl, rfl⟩))
    (fun os started H enc _ => lifted os started H enc)

theorem proved : Rows.FrameFindsSaid := over
#print axioms proved
end Go.Proofs.Ytclgnginmgleaaa.frameFinds
