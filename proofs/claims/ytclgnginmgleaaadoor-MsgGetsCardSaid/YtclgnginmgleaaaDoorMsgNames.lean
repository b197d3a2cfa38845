/-
  Walks of package msg: the kinds' names.
-/
import Derived.Test.YtclgnginmgleaaaDoorMsgRef
import Derived.Test.YtclgnginmgleaaaDoorMsgRobot
import Derived.Test.YtclgnginmgleaaaDoorShelf
import Derived.Lib.LaidTab
import Derived.Lib.SmallJoins
namespace Go.Proofs.YtclgnginmgleaaaDoor
open Go Go.RowKit Go.Sort

/-- The names. -/
def words : List (List UInt8) := [[104, 101, 108, 108, 111], [119, 101, 108, 99, 111, 109, 101], [114, 101, 113, 117, 101, 115, 116], [103, 114, 97, 110, 116], [113, 117, 101, 117, 101, 100], [98, 117, 115, 121], [100, 101, 110, 121], [97, 114, 114, 105, 118, 101, 100], [101, 110, 116, 101, 114, 101, 100], [114, 105, 100, 101, 111, 107], [114, 101, 106, 101, 99, 116], [101, 120, 105, 116], [101, 120, 105, 116, 101, 100], [101, 120, 105, 116, 111, 107], [114, 101, 110, 101, 119], [101, 118, 105, 99, 116]]
def nameOf (n : Int) : List UInt8 := if M.kindOk n then words.getD (n - 1).toNat [] else []

def nameText : List UInt8 := [104, 101, 108, 108, 111, 32, 119, 101, 108, 99, 111, 109, 101, 32, 114, 101, 113, 117, 101, 115, 116, 32, 103, 114, 97, 110, 116, 32, 113, 117, 101, 117, 101, 100, 32, 98, 117, 115, 121, 32, 100, 101, 110, 121, 32, 97, 114, 114, 105, 118, 101, 100, 32, 101, 110, 116, 101, 114, 101, 100, 32, 114, 105, 100, 101, 111, 107, 32, 114, 101, 106, 101, 99, 116, 32, 101, 120, 105, 116, 32, 101, 120, 105, 116, 101, 100, 32, 101, 120, 105, 116, 111, 107, 32, 114, 101, 110, 101, 119, 32, 101, 118, 105, 99, 116]

abbrev Tab (w : World) : Prop := Lib.TabIs Tryd.prog w "strings.asciiSpace" .u8 Lib.asciiSpaceTab
theorem gSpace : ∃ g, Tryd.prog.globalNamed "strings.asciiSpace" = some g := ⟨0, by kernel_rfl⟩
theorem Tab.below {w w' : World} (h : Tab w) (hb : Below w.heap.size w w') : Tab w' := by
  obtain ⟨g, hg⟩ := gSpace
  exact Joins.tab_stays hg h hb (Nat.le_refl _)

def strV (l : List UInt8) : Value := .string (str l)

theorem fields_words : Lib.fields nameText = words := by decide +kernel
theorem fields_any (s : ByteArray) (hs : s = ⟨nameText.toArray⟩) (w : World) (ht : Tab w) : Calls Tryd.prog 23 #[.string s] w fun e w' => e = .returned (.slice (some ⟨w.heap.size, 0, none⟩) 16 16) ∧ w' = w.alloc (.cells (words.map strV).toArray 9) := by
  subst hs
  refine (Tryd.strings_Fields _ _ (by decide +kernel) (fun j b hj => ?_) ht).mono ?_
  · have hall : ∀ b ∈ nameText, b.toNat < 128 := by decide +kernel
    exact hall b (List.mem_of_getElem? hj)
  · rintro e w1 ⟨rfl, rfl⟩
    have e1 : (⟨nameText.toArray⟩ : ByteArray).data.toList = nameText := rfl
    rw [e1, fields_words]
    exact ⟨rfl, rfl⟩

set_option maxRecDepth 100000 in
theorem names_any (w : World) (ht : Tab w) : Calls Tryd.prog 22 #[] w fun e w' => e = .returned (.slice (some ⟨w.heap.size, 0, none⟩) 16 16) ∧ w' = w.alloc (.cells (words.map strV).toArray 9) := by
  have HT := Lib.hid ht
  clear ht
  go_enter Tryd.func22, Tryd.ntmps22
  go_wp2_with fail
  refine (fields_any _ rfl _ HT.out).mono ?_
  rintro e w1 ⟨rfl, rfl⟩
  go_wp2_with fail
  go_ret
  exact ⟨rfl, rfl⟩

theorem words_cell (w : World) (m : Nat) (hm : m < 16) : (w.alloc (.cells (words.map strV).toArray 9)).cell? ⟨w.heap.size, m, none⟩ = some (.string (str (words.getD m []))) := by
  rw [cell_of_row _ _ _ _ _ _ (heap_alloc_new w _)]
  have : m < words.length := hm
  simp [List.getD_eq_getElem?_getD, this, strV]

set_option maxRecDepth 100000 in
theorem name_any (n : Int) (w : World) (ht : Tab w) : Calls Tryd.prog 14 #[.int .i64 n] w fun e w' => e = .returned (.string (str (nameOf n))) ∧ Below w.heap.size w w' := by
  have HT := Lib.hid ht
  clear ht
  by_cases hk : M.kindOk n = true
  · have hn : nameOf n = words.getD (n - 1).toNat [] := by unfold nameOf; rw [if_pos hk]
    rw [hn]
    obtain ⟨g0, g1⟩ : 1 ≤ n ∧ n ≤ 16 := by simpa [M.kindOk] using hk
    obtain ⟨m, hm⟩ : ∃ m : Nat, n - 1 = (m : Int) := ⟨(n - 1).toNat, by omega⟩
    have hm16 : m < 16 := by omega
    rw [show (n - 1).toNat = m by omega]
    have HK := Lib.hid hk
    have hc := words_cell w m hm16
    have hb : Below w.heap.size w (w.alloc (.cells (words.map strV).toArray 9)) := (Below.refl _ _).alloc (Nat.le_refl _) _
    generalize hW : w.alloc (.cells (words.map strV).toArray 9) = W at hc hb
    have HW := Lib.hid hW
    generalize words.getD m [] = nm at *
    have m0 : (m : Int) < 16 := by omega
    have m1 : (0 : Int) ≤ (m : Int) := by omega
    clear hk hn hW
    go_enter Tryd.func14, Tryd.ntmps14
    go_wp2_with (first | (go_at_call 19; (with_reducible refine (kind_any _ _).mono ?_); rintro e W ⟨rfl, rfl⟩; rw [HK.out]) | (go_at_call 22; (with_reducible refine (names_any _ HT.out).mono ?_); rintro e W' ⟨rfl, hw'⟩; rw [hw', HW.out]; clear hw' W') | fail)
    go_ret
    exact ⟨rfl, hb⟩
  · rw [Bool.not_eq_true] at hk
    have hn : nameOf n = [] := by unfold nameOf; rw [if_neg (by rw [hk]; simp)]
    rw [hn]
    have HK := Lib.hid hk
    clear hk hn
    go_enter Tryd.func14, Tryd.ntmps14
    go_wp2_with (first | (go_at_call 19; (with_reducible refine (kind_any _ _).mono ?_); rintro e W ⟨rfl, rfl⟩; rw [HK.out]) | fail)
    go_ret
    exact ⟨rfl, Below.refl _ _⟩

end Go.Proofs.YtclgnginmgleaaaDoor
