/- The walk of (order).lay. -/
import Derived.Test.YtpjdkdphklgfjaaDoorAsm1
namespace Go.Proofs.YtpjdkdphklgfjaaDoor
open Go.RowKit Go.Shelf
set_option linter.unusedVariables false
set_option linter.unusedSimpArgs false

set_option maxRecDepth 100000 in
set_option maxHeartbeats 1000000 in
theorem ord_plain (kind arg part : Int) (name label : ByteArray) (A : Option Addr) (n c : Nat) (at_ a : Int) (w : World) (hT : Tabs w) (ha0 : -9223372036854775808 ≤ arg) (ha1 : arg ≤ 9223372036854775807) (hp : (part == 0) = true) :
    Calls Tryd.prog 133 #[.agg #[.int .u8 kind, .string name, .int .i64 arg, .string label, .int .u8 part, .slice A n c], .int .i64 at_, .int .i64 a] w (RetLay w (encI name arg).1 (encI name arg).2) := by
  have hp' : (part != 0) = false := by simpa using hp
  go_enter Tryd.func133, Tryd.ntmps133
  go_wp2_with fail
  refine (code_Encode name arg _ (Tabs.alloc (Tabs.alloc hT _) _) ha0 ha1).mono ?_
  rintro e w1 ⟨A1, c1, rfl, hy, hb⟩
  have HY := Lib.hid hy
  clear hy
  go_wp2_with fail
  go_ret2
  exact ⟨A1, c1, rfl, HY.out, below_call (below_alloc (below_new _ _) _ (by simp)) hb (by simp; omega)⟩

set_option maxRecDepth 100000 in
set_option maxHeartbeats 1000000 in
theorem ord_page (kind arg part : Int) (name label : ByteArray) (A : Option Addr) (n c : Nat) (at_ a : Int) (w : World) (hT : Tabs w) (h1 : 0 ≤ firstI name) (hp : (part == 0) = false) (hf : formI (firstI name) = 5) (ha0 : 0 ≤ a) (ha1 : a ≤ 65535) (hb0 : 0 ≤ at_) (hb1 : at_ ≤ 65536) (hd : (a / 256 != (at_ + 1) / 256) = true) :
    Calls Tryd.prog 133 #[.agg #[.int .u8 kind, .string name, .int .i64 arg, .string label, .int .u8 part, .slice A n c], .int .i64 at_, .int .i64 a] w (RetLay w [] 142) := by
  have hp' : (part != 0) = true := by simpa using hp
  go_enter Tryd.func133, Tryd.ntmps133
  go_wp2_with fail
  refine (code_Find_yes _ _ (Tabs.alloc (Tabs.alloc hT _) _) h1).mono ?_
  rw [hf]
  rintro e w1 ⟨rfl, hb⟩
  have hW : Below w.heap.size w w1 := below_call (below_alloc (below_new _ _) _ (by simp)) hb (by simp; omega)
  have hz : w.heap.size + 1 < w1.heap.size := by have := hb.size; simp at this; omega
  have hz0 : w.heap.size < w1.heap.size := by omega
  have g0 := hb.cell (p := ⟨w.heap.size, 4, none⟩) (by simp; omega)
  have k4 : w1.cell? ⟨w.heap.size, 4, none⟩ = some (.int .u8 part) := g0.trans (by simp)
  have g1 := hb.cell (p := ⟨w.heap.size + 1, 0, none⟩) (by simp)
  have j0 : w1.cell? ⟨w.heap.size + 1, 0, none⟩ = some (.string name) := g1.trans (by simp)
  have g2 := hb.cell (p := ⟨w.heap.size + 1, 1, none⟩) (by simp)
  have j1 : w1.cell? ⟨w.heap.size + 1, 1, none⟩ = some (.int .i64 arg) := g2.trans (by simp)
  have f1 : ∀ o, w1.frozen? ⟨w.heap.size + 1, o, none⟩ = false := fun o => (hb.frozen (p := ⟨w.heap.size + 1, o, none⟩) (by simp)).trans (by simp)
  clear g0 g1 g2
  go_wp2_with fail
  go_ret2
  exact RetBytes.nil rfl rfl (by repeat (first | exact hW | refine Below.drew ?_ | refine below_drewN ?_ _ | refine below_set ?_ _ (by omega) | refine below_alloc ?_ _ (by simp; omega) | refine below_alloc ?_ _ (by omega) | refine below_alloc ?_ _ (by simp)))

set_option maxRecDepth 100000 in
set_option maxHeartbeats 1000000 in
theorem ord_label (kind arg part : Int) (name label : ByteArray) (A : Option Addr) (n c : Nat) (at_ a : Int) (w : World) (hT : Tabs w) (h1 : 0 ≤ firstI name) (hp : (part == 0) = false) (f : Int) (hf : formI (firstI name) = f) (ha0 : 0 ≤ a) (ha1 : a ≤ 65535) (hb0 : 0 ≤ at_) (hb1 : at_ ≤ 65536)
    (hd : (f == 5) = false ∨ (f == 5) = true ∧ (a / 256 != (at_ + 1) / 256) = false) (x : Int) (hx : ordArg f part a = x) :
    Calls Tryd.prog 133 #[.agg #[.int .u8 kind, .string name, .int .i64 arg, .string label, .int .u8 part, .slice A n c], .int .i64 at_, .int .i64 a] w (RetLay w (encI name x).1 (encI name x).2) := by
  have hp' : (part != 0) = true := by simpa using hp
  have hx0 : -9223372036854775808 ≤ x ∧ x ≤ 9223372036854775807 := by rw [← hx]; unfold ordArg; repeat' split <;> omega
  have fin : ∀ W, Tabs W → Below w.heap.size w W → w.heap.size ≤ W.heap.size → Calls Tryd.prog 41 #[.agg #[.string name, .int .i64 x]] W (RetLay w (encI name x).1 (encI name x).2) := fun W hTW hBW hs => by
    refine (code_Encode name x W hTW hx0.1 hx0.2).mono ?_
    rintro e w1 ⟨A1, c1, rfl, hy, hb⟩
    exact ⟨A1, c1, rfl, hy, below_call hBW hb hs⟩
  have cases3 : (part == 2) = true ∧ x = a / 256 ∨ (part == 2) = false ∧ (part == 3) = true ∧ x = a % 256 ∨ (part == 2) = false ∧ (part == 3) = false ∧ (f == 5) = true ∧ x = a % 256 ∨ (part == 2) = false ∧ (part == 3) = false ∧ (f == 5) = false ∧ x = a := by
    rw [← hx]
    unfold ordArg
    by_cases e2 : part = 2
    · left; simp [e2]
    · by_cases e3 : part = 3
      · right; left; simp [e3]
      · by_cases e5 : f = 5
        · right; right; left; simp [e2, e3, e5]
        · right; right; right; simp [e2, e3, e5]
  have HX := Lib.hid hx
  clear hx
  rcases cases3 with ⟨q1, rfl⟩ | ⟨q1, q2, rfl⟩ | ⟨q1, q2, q3, rfl⟩ | ⟨q1, q2, q3, rfl⟩
  all_goals
    rcases hd with hd | ⟨hd, hd2⟩
  all_goals
    first
    | (simp_all; done)
    | skip
  all_goals
    go_enter Tryd.func133, Tryd.ntmps133
    go_wp2_with fail
    refine (code_Find_yes _ _ (Tabs.alloc (Tabs.alloc hT _) _) h1).mono ?_
    rw [hf]
    rintro e w1 ⟨rfl, hb⟩
    have hW : Below w.heap.size w w1 := below_call (below_alloc (below_new _ _) _ (by simp)) hb (by simp; omega)
    have hz : w.heap.size + 1 < w1.heap.size := by have := hb.size; simp at this; omega
    have hz0 : w.heap.size < w1.heap.size := by omega
    have g0 := hb.cell (p := ⟨w.heap.size, 4, none⟩) (by simp; omega)
    have k4 : w1.cell? ⟨w.heap.size, 4, none⟩ = some (.int .u8 part) := g0.trans (by simp)
    have g1 := hb.cell (p := ⟨w.heap.size + 1, 0, none⟩) (by simp)
    have j0 : w1.cell? ⟨w.heap.size + 1, 0, none⟩ = some (.string name) := g1.trans (by simp)
    have g2 := hb.cell (p := ⟨w.heap.size + 1, 1, none⟩) (by simp)
    have j1 : w1.cell? ⟨w.heap.size + 1, 1, none⟩ = some (.int .i64 arg) := g2.trans (by simp)
    have f1 : ∀ o, w1.frozen? ⟨w.heap.size + 1, o, none⟩ = false := fun o => (hb.frozen (p := ⟨w.heap.size + 1, o, none⟩) (by simp)).trans (by simp)
    clear g0 g1 g2
    go_wp2_with fail
    refine (fin _ (hT.below ?_) ?_ ?_).mono ?_
    · repeat (first | exact hW | refine Below.drew ?_ | refine below_drewN ?_ _ | refine below_set ?_ _ (by omega) | refine below_alloc ?_ _ (by simp; omega) | refine below_alloc ?_ _ (by omega) | refine below_alloc ?_ _ (by simp))
    · repeat (first | exact hW | refine Below.drew ?_ | refine below_drewN ?_ _ | refine below_set ?_ _ (by omega) | refine below_alloc ?_ _ (by simp; omega) | refine below_alloc ?_ _ (by omega) | refine below_alloc ?_ _ (by simp))
    · simp; omega
    rintro e w2 ⟨A1, c1, rfl, hy, hb2⟩
    have HY := Lib.hid hy
    clear hy
    go_wp2_with fail
    go_ret2
    exact ⟨A1, c1, rfl, HY.out, hb2⟩

/-- (order).lay, of whatever instruction that has a name. -/
theorem lay_order (kind arg part : Int) (name label : ByteArray) (A : Option Addr) (n c : Nat) (at_ a : Int) (w : World) (hT : Tabs w) (hz0 : -9223372036854775808 ≤ arg) (hz1 : arg ≤ 9223372036854775807) (h1 : 0 ≤ firstI name) (ha0 : 0 ≤ a) (ha1 : a ≤ 65535) (hb0 : 0 ≤ at_) (hb1 : at_ ≤ 65536) :
    Calls Tryd.prog 133 #[.agg #[.int .u8 kind, .string name, .int .i64 arg, .string label, .int .u8 part, .slice A n c], .int .i64 at_, .int .i64 a] w (RetLay w (ordBytes name arg part at_ a).1 (ordBytes name arg part at_ a).2) := by
  unfold ordBytes
  by_cases hp : part = 0
  · rw [if_pos hp]; exact ord_plain kind arg part name label A n c at_ a w hT hz0 hz1 (by simpa using hp)
  · rw [if_neg hp]
    have hp' : (part == 0) = false := by simpa using hp
    by_cases hc : formI (firstI name) = 5 ∧ a / 256 ≠ (at_ + 1) / 256
    · rw [if_pos hc]; exact ord_page kind arg part name label A n c at_ a w hT h1 hp' hc.1 ha0 ha1 hb0 hb1 (by simpa using hc.2)
    · rw [if_neg hc]
      refine ord_label kind arg part name label A n c at_ a w hT h1 hp' _ rfl ha0 ha1 hb0 hb1 ?_ _ rfl
      by_cases e5 : formI (firstI name) = 5
      · right; exact ⟨by simpa using e5, by simp; by_cases e : a / 256 = (at_ + 1) / 256; exact e; exact absurd ⟨e5, e⟩ hc⟩
      · left; simpa using e5
end Go.Proofs.YtpjdkdphklgfjaaDoor
