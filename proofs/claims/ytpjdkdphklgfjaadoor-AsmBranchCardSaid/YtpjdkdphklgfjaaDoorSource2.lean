/- The walk of source.instruction. -/
import Derived.Test.YtpjdkdphklgfjaaDoorSource1
import Derived.Test.YtpjdkdphklgfjaaDoorItems
import Derived.Test.YtpjdkdphklgfjaaDoorMem
namespace Go.Proofs.YtpjdkdphklgfjaaDoor
open Go.RowKit Go.Shelf
set_option linter.unusedVariables false
set_option linter.unusedSimpArgs false

set_option maxRecDepth 100000 in
set_option maxHeartbeats 1000000 in
theorem instr_1 (kind arg part : Int) (name label : ByteArray) (A : Option Addr) (n c : Nat) (w : World) (hT : Tabs w) (h1 : firstI name < 0) :
    Calls Tryd.prog 68 #[.agg #[.int .u8 kind, .string name, .int .i64 arg, .string label, .int .u8 part, .slice A n c]] w (RetB w false) := by
  go_enter Tryd.func68, Tryd.ntmps68
  go_wp2_with fail
  refine (code_Find_no _ _ (Tabs.alloc hT _) h1).mono ?_
  rintro e w1 ⟨rfl, hb⟩
  have hW : Below w.heap.size w w1 := below_call (below_new _ _) hb (by simp)
  have hz := size_call hb
  go_wp2_with fail
  go_ret
  exact ⟨rfl, by repeat (first | exact hW | refine Below.drew ?_ | refine below_drewN ?_ _ | refine below_set ?_ _ (by omega) | refine below_alloc ?_ _ (by simp; omega) | refine below_alloc ?_ _ (by omega) | refine below_alloc ?_ _ (by simp))⟩
set_option maxRecDepth 100000 in
set_option maxHeartbeats 1000000 in
theorem instr_2 (kind arg part : Int) (name label : ByteArray) (A : Option Addr) (n c : Nat) (w : World) (hT : Tabs w) (h1 : 0 ≤ firstI name) (hn : 0 < n) :
    Calls Tryd.prog 68 #[.agg #[.int .u8 kind, .string name, .int .i64 arg, .string label, .int .u8 part, .slice A n c]] w (RetB w false) := by
  go_enter Tryd.func68, Tryd.ntmps68
  go_wp2_with fail
  refine (code_Find_yes _ _ (Tabs.alloc hT _) h1).mono ?_
  rintro e w1 ⟨rfl, hb⟩
  have hW : Below w.heap.size w w1 := below_call (below_new _ _) hb (by simp)
  have hz := size_call hb
  have k1 := own_cell (v := .string name) hb 1 rfl
  have k2 := own_cell (v := .int .i64 arg) hb 2 rfl
  have k3 := own_cell (v := .string label) hb 3 rfl
  have k4 := own_cell (v := .int .u8 part) hb 4 rfl
  have k5 := own_cell (v := .slice A _ c) hb 5 rfl
  have hn' : (0 : Int) < (n : Int) := by omega
  go_wp2_with fail
  go_ret
  exact ⟨rfl, by repeat (first | exact hW | refine Below.drew ?_ | refine below_drewN ?_ _ | refine below_set ?_ _ (by omega) | refine below_alloc ?_ _ (by simp; omega) | refine below_alloc ?_ _ (by omega) | refine below_alloc ?_ _ (by simp))⟩
set_option maxRecDepth 100000 in
set_option maxHeartbeats 1000000 in
theorem instr_3 (kind arg part : Int) (name label : ByteArray) (A : Option Addr) (n c : Nat) (w : World) (hT : Tabs w) (hn : n = 0) (h1 : 0 ≤ firstI name) (hp : (part == 0) = true) (ha0 : -9223372036854775808 ≤ arg) (ha1 : arg ≤ 9223372036854775807) :
    Calls Tryd.prog 68 #[.agg #[.int .u8 kind, .string name, .int .i64 arg, .string label, .int .u8 part, .slice A n c]] w (RetB w ((encI name arg).2 == 0 && label.toList.isEmpty)) := by
  subst hn
  go_enter Tryd.func68, Tryd.ntmps68
  go_wp2_with fail
  refine (code_Find_yes _ _ (Tabs.alloc hT _) h1).mono ?_
  rintro e w1 ⟨rfl, hb⟩
  have hW : Below w.heap.size w w1 := below_call (below_new _ _) hb (by simp)
  have hz := size_call hb
  have k1 := own_cell (v := .string name) hb 1 rfl
  have k2 := own_cell (v := .int .i64 arg) hb 2 rfl
  have k3 := own_cell (v := .string label) hb 3 rfl
  have k4 := own_cell (v := .int .u8 part) hb 4 rfl
  have k5 := own_cell (v := .slice A _ c) hb 5 rfl
  go_wp2_with fail
  refine (code_Encode _ _ _ (Tabs.alloc (hT.below hW) _) ha0 ha1).mono ?_
  rintro e w2 ⟨A2, c2, rfl, hy, hb2⟩
  have j3 := past_cell hb2 hz k3
  have hW2 : Below w.heap.size w w2 := below_call (below_alloc hW _ (by omega)) hb2 (by simp; omega)
  clear hy
  cases hE : ((encI name arg).2 == 0)
  all_goals
    go_wp2_with fail
    go_ret
    exact ⟨by first | rfl | (rw [hE]; first | rfl | simp [*]), by repeat (first | exact hW2 | refine Below.drew ?_ | refine below_drewN ?_ _ | refine below_set ?_ _ (by omega) | refine below_alloc ?_ _ (by simp; omega) | refine below_alloc ?_ _ (by omega) | refine below_alloc ?_ _ (by simp))⟩
set_option maxRecDepth 100000 in
set_option maxHeartbeats 1000000 in
theorem instr_4 (kind arg part : Int) (name label : ByteArray) (A : Option Addr) (n c : Nat) (w : World) (hT : Tabs w) (h1 : 0 ≤ firstI name) (hn : n = 0) (hp : (part == 0) = false) (ha : (arg != 0) = true) :
    Calls Tryd.prog 68 #[.agg #[.int .u8 kind, .string name, .int .i64 arg, .string label, .int .u8 part, .slice A n c]] w (RetB w false) := by
  subst hn
  go_enter Tryd.func68, Tryd.ntmps68
  go_wp2_with fail
  refine (code_Find_yes _ _ (Tabs.alloc hT _) h1).mono ?_
  rintro e w1 ⟨rfl, hb⟩
  have hW : Below w.heap.size w w1 := below_call (below_new _ _) hb (by simp)
  have hz := size_call hb
  have k1 := own_cell (v := .string name) hb 1 rfl
  have k2 := own_cell (v := .int .i64 arg) hb 2 rfl
  have k3 := own_cell (v := .string label) hb 3 rfl
  have k4 := own_cell (v := .int .u8 part) hb 4 rfl
  have k5 := own_cell (v := .slice A _ c) hb 5 rfl
  go_wp2_with fail
  go_ret
  exact ⟨rfl, by repeat (first | exact hW | refine Below.drew ?_ | refine below_drewN ?_ _ | refine below_set ?_ _ (by omega) | refine below_alloc ?_ _ (by simp; omega) | refine below_alloc ?_ _ (by omega) | refine below_alloc ?_ _ (by simp))⟩
set_option maxRecDepth 100000 in
set_option maxHeartbeats 1000000 in
theorem instr_5 (kind arg part : Int) (name label : ByteArray) (A : Option Addr) (n c : Nat) (w : World) (hT : Tabs w) (h1 : 0 ≤ firstI name) (hn : n = 0) (hp : (part == 0) = false) (ha : arg = 0) (hl : label.size ≤ 9223372036854775807) (hm : isName label = false) :
    Calls Tryd.prog 68 #[.agg #[.int .u8 kind, .string name, .int .i64 arg, .string label, .int .u8 part, .slice A n c]] w (RetB w false) := by
  subst hn
  subst ha
  go_enter Tryd.func68, Tryd.ntmps68
  go_wp2_with fail
  refine (code_Find_yes _ _ (Tabs.alloc hT _) h1).mono ?_
  rintro e w1 ⟨rfl, hb⟩
  have hW : Below w.heap.size w w1 := below_call (below_new _ _) hb (by simp)
  have hz := size_call hb
  have k1 := own_cell (v := .string name) hb 1 rfl
  have k2 := own_cell (v := .int .i64 0) hb 2 rfl
  have k3 := own_cell (v := .string label) hb 3 rfl
  have k4 := own_cell (v := .int .u8 part) hb 4 rfl
  have k5 := own_cell (v := .slice A _ c) hb 5 rfl
  go_wp2_with fail
  refine (source_name _ _ hl).mono ?_
  rw [hm]
  rintro e w2 ⟨rfl, hb2⟩
  have hW2 : Below w.heap.size w w2 := below_call (below_alloc hW _ (by omega)) hb2 (by simp; omega)
  go_wp2_with fail
  go_ret
  exact ⟨rfl, by repeat (first | exact hW2 | refine Below.drew ?_ | refine below_drewN ?_ _ | refine below_set ?_ _ (by omega) | refine below_alloc ?_ _ (by simp; omega) | refine below_alloc ?_ _ (by omega) | refine below_alloc ?_ _ (by simp))⟩
set_option maxRecDepth 100000 in
set_option maxHeartbeats 1000000 in
theorem instr_6 (kind arg part : Int) (name label : ByteArray) (A : Option Addr) (n c : Nat) (w : World) (hT : Tabs w) (h1 : 0 ≤ firstI name) (hn : n = 0) (hp : (part == 0) = false) (ha : arg = 0) (hl : label.size ≤ 9223372036854775807) (hm : isName label = true) (f : Int) (hf : formI (firstI name) = f) :
    Calls Tryd.prog 68 #[.agg #[.int .u8 kind, .string name, .int .i64 arg, .string label, .int .u8 part, .slice A n c]] w (RetB w (partB f part)) := by
  subst hn
  subst ha
  go_enter Tryd.func68, Tryd.ntmps68
  go_wp2_with fail
  refine (code_Find_yes _ _ (Tabs.alloc hT _) h1).mono ?_
  rw [hf]
  rintro e w1 ⟨rfl, hb⟩
  have hW : Below w.heap.size w w1 := below_call (below_new _ _) hb (by simp)
  have hz := size_call hb
  have k1 := own_cell (v := .string name) hb 1 rfl
  have k2 := own_cell (v := .int .i64 0) hb 2 rfl
  have k3 := own_cell (v := .string label) hb 3 rfl
  have k4 := own_cell (v := .int .u8 part) hb 4 rfl
  have k5 := own_cell (v := .slice A _ c) hb 5 rfl
  go_wp2_with fail
  refine (source_name _ _ hl).mono ?_
  rw [hm]
  rintro e w2 ⟨rfl, hb2⟩
  have hW2 : Below w.heap.size w w2 := below_call (below_alloc hW _ (by omega)) hb2 (by simp; omega)
  have j4 := past_cell hb2 hz k4
  have x1 : w2.cell? ⟨w1.heap.size, 1, none⟩ = some (.int .u8 f) := own_cell hb2 1 (by simp [hf])
  by_cases e4 : f = 4
  · subst e4
    cases hp2 : (part == 2)
    all_goals
      go_wp2_with fail
      go_ret
      exact ⟨by first | rfl | simp_all [partB], by repeat (first | exact hW2 | refine Below.drew ?_ | refine below_drewN ?_ _ | refine below_set ?_ _ (by omega) | refine below_alloc ?_ _ (by simp; omega) | refine below_alloc ?_ _ (by omega) | refine below_alloc ?_ _ (by simp))⟩
  · have b4 : (f == 4) = false := by simpa using e4
    by_cases e5 : f = 5
    · subst e5
      go_wp2_with fail
      go_ret
      exact ⟨by first | rfl | simp_all [partB], by repeat (first | exact hW2 | refine Below.drew ?_ | refine below_drewN ?_ _ | refine below_set ?_ _ (by omega) | refine below_alloc ?_ _ (by simp; omega) | refine below_alloc ?_ _ (by omega) | refine below_alloc ?_ _ (by simp))⟩
    · have b5 : (f == 5) = false := by simpa using e5
      by_cases e6 : f = 6
      · subst e6
        go_wp2_with fail
        go_ret
        exact ⟨by first | rfl | simp_all [partB], by repeat (first | exact hW2 | refine Below.drew ?_ | refine below_drewN ?_ _ | refine below_set ?_ _ (by omega) | refine below_alloc ?_ _ (by simp; omega) | refine below_alloc ?_ _ (by omega) | refine below_alloc ?_ _ (by simp))⟩
      · have b6 : (f == 6) = false := by simpa using e6
        go_wp2_with fail
        go_ret
        exact ⟨by simp [partB, e4, e5, e6], by repeat (first | exact hW2 | refine Below.drew ?_ | refine below_drewN ?_ _ | refine below_set ?_ _ (by omega) | refine below_alloc ?_ _ (by simp; omega) | refine below_alloc ?_ _ (by omega) | refine below_alloc ?_ _ (by simp))⟩

/-- source.instruction, of whatever item. -/
theorem source_instruction (kind arg part : Int) (name label : ByteArray) (A : Option Addr) (n c : Nat) (w : World) (hT : Tabs w) (ha0 : -9223372036854775808 ≤ arg) (ha1 : arg ≤ 9223372036854775807) (hl : label.size ≤ 9223372036854775807) :
    Calls Tryd.prog 68 #[.agg #[.int .u8 kind, .string name, .int .i64 arg, .string label, .int .u8 part, .slice A n c]] w (RetB w (instrB name arg label part n)) := by
  unfold instrB
  by_cases h1 : firstI name < 0
  · rw [if_pos h1]; exact instr_1 kind arg part name label A n c w hT h1
  · rw [if_neg h1]
    by_cases h2 : 0 < n
    · rw [if_pos h2]; exact instr_2 kind arg part name label A n c w hT (by omega) h2
    · rw [if_neg h2]
      by_cases h3 : part = 0
      · rw [if_pos h3]; exact instr_3 kind arg part name label A n c w hT (by omega) (by omega) (by simp [h3]) ha0 ha1
      · rw [if_neg h3]
        have h3' : (part == 0) = false := by simpa using h3
        by_cases h4 : arg ≠ 0
        · rw [if_pos h4]; exact instr_4 kind arg part name label A n c w hT (by omega) (by omega) h3' (by simpa using h4)
        · rw [if_neg h4]
          have h4' : arg = 0 := by omega
          cases h5 : isName label with
          | false => rw [if_pos rfl]; exact instr_5 kind arg part name label A n c w hT (by omega) (by omega) h3' h4' hl h5
          | true => rw [if_neg (by simp)]; exact instr_6 kind arg part name label A n c w hT (by omega) (by omega) h3' h4' hl h5 _ rfl
end Go.Proofs.YtpjdkdphklgfjaaDoor
