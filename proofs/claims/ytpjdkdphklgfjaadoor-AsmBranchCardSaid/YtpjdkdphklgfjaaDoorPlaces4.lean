/- The first pass, of whatever items. -/
import Derived.Test.YtpjdkdphklgfjaaDoorPlaces3
namespace Go.Proofs.YtpjdkdphklgfjaaDoor
open Go.RowKit Go.Shelf Go.Maps
set_option linter.unusedVariables false
set_option linter.unusedSimpArgs false

set_option maxRecDepth 100000 in
theorem asm_places_empty (A : Option Addr) (c : Nat) (w0 w : World) (y m : Nat) (hB : Below w0.heap.size w0 w) (hy0 : w0.heap.size ≤ y) (hm0 : w0.heap.size ≤ m) (hne : y ≠ m)
    (hy : LayAt w y (.slice A 0 c) (.slice none 0 0) (.map (some m)) (fun _ => 0) (fun _ => 0))
    (hm : w.ownsMap Tryd.prog 9 (plainElem Tryd.prog 3) m 0 (mapOf [])) :
    Calls Tryd.prog 33 #[.pointer (some ⟨y, 0, none⟩)] w (PlacesRet w0 y m (.slice A 0 c) (.inr lay0)) := by
  have ap : Apart w0 y m (w.heap.size + 1) := ⟨hy0, hm0, hne, by have := hy.lt; omega, by have := hm.lt; omega⟩
  have g0 : Going w0 (w.alloc (.cells #[.pointer (some ⟨y, 0, none⟩)] 69)) y m (w.heap.size + 1) w.heap.size (.slice A 0 c) (.slice none 0 0) lay0 :=
    ⟨hB.alloc hB.size _, hy.alloc _, World.ownsRow_nil _ _ _ _, hm.alloc _, by simp, by simp⟩
  have ylt := hy.lt
  have G0 := Lib.hid g0
  have AP := Lib.hid ap
  have yc0 := hy.c0
  clear g0 ap hy hm hB
  go_enter Tryd.func33, Tryd.ntmps33
  go_wp2_with fail
  refine wp_loop_rounds 1 ?_
  rw [rounds_succ]
  go_wp2_with fail
  go_ret2
  exact ⟨rfl, _, _, _, AP.out, G0.out⟩

/-- The first pass. -/
theorem asm_places (A : Option Addr) (c : Nat) (l : List Item) (w0 w : World) (y m : Nat) (hT : Tabs w0) (hn : l.length ≤ 4096) (hwf : ∀ x ∈ l, x.wf) (hmay : ∀ x ∈ l, x.may = true)
    (hl : ItemsAt w0 A l) (hB : Below w0.heap.size w0 w) (hy0 : w0.heap.size ≤ y) (hm0 : w0.heap.size ≤ m) (hne : y ≠ m)
    (hy : LayAt w y (.slice A l.length c) (.slice none 0 0) (.map (some m)) (fun _ => 0) (fun _ => 0))
    (hm : w.ownsMap Tryd.prog 9 (plainElem Tryd.prog 3) m 0 (mapOf [])) :
    Calls Tryd.prog 33 #[.pointer (some ⟨y, 0, none⟩)] w (PlacesRet w0 y m (.slice A l.length c) (layFrom l lay0 0)) := by
  rcases hl with rfl | ⟨b, off, rfl, hc⟩
  · exact asm_places_empty A c w0 w y m hB hy0 hm0 hne hy hm
  · exact asm_places_walk b off c l w0 w y m hT hn hwf hmay hc hB hy0 hm0 hne hy hm _ rfl
end Go.Proofs.YtpjdkdphklgfjaaDoor
