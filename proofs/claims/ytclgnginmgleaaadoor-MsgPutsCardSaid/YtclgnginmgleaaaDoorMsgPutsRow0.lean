/-
  A packet that came in, opened.
-/
import Derived.Test.YtclgnginmgleaaaDoorDoor0
import Derived.Test.YtclgnginmgleaaaDoorMsgPutsLaw
import Derived.Lib.SmallJoins
namespace Go.Proofs.YtclgnginmgleaaaDoor.door
open Go Go.ChangeShapes Go.WideShapes Go.ChangeAt Go.RowKit Go.Deep Go.Joins
theorem cellsP : Tryd.prog.cellsOf 25 = 9 := by kernel_rfl
theorem cellsM : Tryd.prog.cellsOf 23 = 4 := by kernel_rfl
theorem cellsI : Tryd.prog.cellsOf 3 = 1 := by kernel_rfl
theorem cellsB : Tryd.prog.cellsOf 4 = 1 := by kernel_rfl
theorem open_packet {H : Type} {enc : TypeId × Value → H} {W : World} {v : Value} {d : DataW H} {p : List MemPlace} {base : Nat} (hv : Value.okWide Tryd.prog W .any base 25 v) (h : DataW.Trod enc Tryd.prog W 0 (fun _ => true) true 25 v d p) : ∃ q : M.Packet, v = .agg (packetV q) := by
  obtain ⟨cs, rfl, hsz⟩ := okWide_struct Tryd.underlying25 hv
  obtain ⟨fuel, hf⟩ := h
  obtain ⟨l⟩ := cs
  obtain ⟨xs, n, _, _, _, hlen, hg⟩ := DataW.trod_struct Tryd.underlying25 hf
  match l, hsz.trans cellsP with
  | [c0, c1, c2, c3, c4, c5, c6, c7, c8], _ =>
    match xs, hlen with
    | [y0, y1, y2, y3, y4, y5], _ =>
      have g0 := hg 0 _ rfl
      have g1 := hg 1 _ rfl
      have g2 := hg 2 _ rfl
      have g3 := hg 3 _ rfl
      have g4 := hg 4 _ rfl
      have g5 := hg 5 _ rfl
      simp [Value.cells, cellsI, cellsM, cellsB] at g0 g1 g2 g3 g4 g5
      obtain ⟨n0, h0, _⟩ := DataW.trod_int Tryd.underlying3 g0
      obtain ⟨n1, h1, _⟩ := DataW.trod_int Tryd.underlying3 g1
      obtain ⟨n2, h2, _⟩ := DataW.trod_int Tryd.underlying3 g2
      obtain ⟨n3, h3, _⟩ := DataW.trod_int Tryd.underlying3 g3
      obtain ⟨b4, h4, _⟩ := DataW.trod_bool Tryd.underlying4 g4
      obtain ⟨zs, m, _, _, _, hlen', hg'⟩ := DataW.trod_struct Tryd.underlying23 g5
      match zs, hlen' with
      | [z0, z1, z2, z3], _ =>
        have k0 := hg' 0 _ rfl
        have k1 := hg' 1 _ rfl
        have k2 := hg' 2 _ rfl
        have k3 := hg' 3 _ rfl
        simp [cellsI] at k0 k1 k2 k3
        obtain ⟨m0, e0, _⟩ := DataW.trod_int Tryd.underlying3 k0
        obtain ⟨m1, e1, _⟩ := DataW.trod_int Tryd.underlying3 k1
        obtain ⟨m2, e2, _⟩ := DataW.trod_int Tryd.underlying3 k2
        obtain ⟨m3, e3, _⟩ := DataW.trod_int Tryd.underlying3 k3
        simp only [List.cons.injEq, and_true] at h0 h1 h2 h3 h4 e0 e1 e2 e3
        subst h0 h1 h2 h3 h4 e0 e1 e2 e3
        exact ⟨⟨n0, n1, n2, n3, b4, ⟨m0, m1, m2, m3⟩⟩, rfl⟩
end Go.Proofs.YtclgnginmgleaaaDoor.door
