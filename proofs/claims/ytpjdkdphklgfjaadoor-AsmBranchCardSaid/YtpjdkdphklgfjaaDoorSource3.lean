/- The walks of source.may, source.Size. -/
import Derived.Test.YtpjdkdphklgfjaaDoorSource2
namespace Go.Proofs.YtpjdkdphklgfjaaDoor
open Go.RowKit Go.Shelf
set_option linter.unusedVariables false
set_option linter.unusedSimpArgs false

set_option maxRecDepth 100000 in
set_option maxHeartbeats 1000000 in
theorem may_code (arg part : Int) (name label : ByteArray) (A : Option Addr) (n c : Nat) (w : World) (hT : Tabs w) (ha0 : -9223372036854775808 ≤ arg) (ha1 : arg ≤ 9223372036854775807) (hl : label.size ≤ 9223372036854775807) :
    Calls Tryd.prog 50 #[.agg #[.int .u8 2, .string name, .int .i64 arg, .string label, .int .u8 part, .slice A n c]] w (RetB w (instrB name arg label part n)) := by
  go_enter Tryd.func50, Tryd.ntmps50
  go_wp2_with fail
  refine (source_instruction 2 arg part name label A n c _ (Tabs.alloc hT _) ha0 ha1 hl).mono ?_
  rintro e w1 ⟨rfl, hb⟩
  go_wp2_with fail
  go_ret
  exact ⟨rfl, below_call (below_new _ _) hb (by simp)⟩

theorem isEmpty_false {l : List UInt8} (h : ¬ l = []) : l.isEmpty = false := by cases l <;> simp at h ⊢

set_option maxRecDepth 100000 in
set_option maxHeartbeats 4000000 in
theorem may_kinds (kind arg part : Int) (name label : ByteArray) (A : Option Addr) (n c : Nat) (w : World) (hk : kind = 1 ∨ kind = 3 ∨ kind = 4 ∨ kind = 5) (hn : n ≤ 9223372036854775807) (hs : name.size ≤ 9223372036854775807) (hl : label.size ≤ 9223372036854775807) :
    Calls Tryd.prog 50 #[.agg #[.int .u8 kind, .string name, .int .i64 arg, .string label, .int .u8 part, .slice A n c]] w (RetB w (mayB kind name arg label part n)) := by
  rcases hk with rfl | rfl | rfl | rfl
  all_goals
    go_enter Tryd.func50, Tryd.ntmps50
    go_wp2_with (go_at_call 69; refine (source_name _ _ (by assumption)).mono ?_; rintro e w1 ⟨rfl, hb⟩)
    all_goals
      go_ret
      refine ⟨?_, by first | exact below_call (below_new _ _) hb (by simp) | exact below_new _ _⟩
      first | rfl | (simp_all [mayB, plainB]; done) | (simp_all [mayB, plainB]; first | omega | (refine congrArg _ (congrArg _ ?_); rw [Bool.eq_iff_iff]; simp; omega) | (rw [Bool.eq_iff_iff]; simp; omega))

set_option maxRecDepth 100000 in
set_option maxHeartbeats 4000000 in
theorem may_other (kind arg part : Int) (name label : ByteArray) (A : Option Addr) (n c : Nat) (w : World) (h1 : (kind == 1) = false) (h2 : (kind == 2) = false) (h3 : (kind == 3) = false) (h4 : (kind == 4) = false) (h5 : (kind == 5) = false) (hn : n ≤ 9223372036854775807) :
    Calls Tryd.prog 50 #[.agg #[.int .u8 kind, .string name, .int .i64 arg, .string label, .int .u8 part, .slice A n c]] w (RetB w false) := by
  have g1 : (kind != 1) = true := by simpa using h1
  have g3 : (kind != 3) = true := by simpa using h3
  have g4 : (kind != 4) = true := by simpa using h4
  have g5 : (kind != 5) = true := by simpa using h5
  go_enter Tryd.func50, Tryd.ntmps50
  go_wp2_with fail
  all_goals
    go_ret
    exact ⟨rfl, below_new _ _⟩

/-- source.may, of whatever item. -/
theorem source_may (kind arg part : Int) (name label : ByteArray) (A : Option Addr) (n c : Nat) (w : World) (hT : Tabs w) (ha0 : -9223372036854775808 ≤ arg) (ha1 : arg ≤ 9223372036854775807) (hs : name.size ≤ 9223372036854775807) (hl : label.size ≤ 9223372036854775807) (hn : n ≤ 9223372036854775807) :
    Calls Tryd.prog 50 #[.agg #[.int .u8 kind, .string name, .int .i64 arg, .string label, .int .u8 part, .slice A n c]] w (RetB w (mayB kind name arg label part n)) := by
  by_cases h2 : kind = 2
  · subst h2
    exact may_code arg part name label A n c w hT ha0 ha1 hl
  · by_cases hk : kind = 1 ∨ kind = 3 ∨ kind = 4 ∨ kind = 5
    · exact may_kinds kind arg part name label A n c w hk hn hs hl
    · have e : mayB kind name arg label part n = false := by
        unfold mayB
        rw [if_neg h2, if_neg (show ¬ kind = 1 by omega), if_neg (show ¬ kind = 3 by omega), if_neg (show ¬ kind = 4 by omega), if_neg (show ¬ kind = 5 by omega)]
        split <;> rfl
      rw [e]
      exact may_other kind arg part name label A n c w (by simp; omega) (by simp; omega) (by simp; omega) (by simp; omega) (by simp; omega) hn

/-- What Size answers. -/
def RetSize (w : World) (m : Int) (err : Int) (e : Ending) (w' : World) : Prop := e = .returned (.tuple #[.int .i64 m, .int .i64 err]) ∧ Below w.heap.size w w'

set_option maxRecDepth 100000 in
set_option maxHeartbeats 1000000 in
theorem size_no (kind arg part : Int) (name label : ByteArray) (A : Option Addr) (n c : Nat) (w : World) (hT : Tabs w) (ha0 : -9223372036854775808 ≤ arg) (ha1 : arg ≤ 9223372036854775807) (hs : name.size ≤ 9223372036854775807) (hl : label.size ≤ 9223372036854775807) (hn : n ≤ 9223372036854775807)
    (hm : mayB kind name arg label part n = false) :
    Calls Tryd.prog 52 #[.agg #[.int .u8 kind, .string name, .int .i64 arg, .string label, .int .u8 part, .slice A n c]] w (RetSize w 0 130) := by
  go_enter Tryd.func52, Tryd.ntmps52
  go_wp2_with fail
  refine (source_may kind arg part name label A n c _ (Tabs.alloc hT _) ha0 ha1 hs hl hn).mono ?_
  rw [hm]
  rintro e w1 ⟨rfl, hb⟩
  go_wp2_with fail
  go_ret2
  exact ⟨rfl, below_call (below_new _ _) hb (by simp)⟩

set_option maxRecDepth 100000 in
set_option maxHeartbeats 1000000 in
theorem size_yes (kind arg part : Int) (name label : ByteArray) (A : Option Addr) (n c : Nat) (w : World) (hT : Tabs w) (ha0 : -9223372036854775808 ≤ arg) (ha1 : arg ≤ 9223372036854775807) (hs : name.size ≤ 9223372036854775807) (hl : label.size ≤ 9223372036854775807) (hn : n ≤ 9223372036854775807)
    (hm : mayB kind name arg label part n = true) :
    Calls Tryd.prog 52 #[.agg #[.int .u8 kind, .string name, .int .i64 arg, .string label, .int .u8 part, .slice A n c]] w (RetSize w (sizeB kind name n) 0) := by
  by_cases h2 : kind = 2
  · have h1 : 0 ≤ firstI name := by
      subst h2
      unfold mayB instrB at hm
      by_cases h : firstI name < 0
      · rw [if_pos rfl, if_pos h] at hm; cases hm
      · omega
    subst h2
    go_enter Tryd.func52, Tryd.ntmps52
    go_wp2_with fail
    refine (source_may 2 arg part name label A n c _ (Tabs.alloc hT _) ha0 ha1 hs hl hn).mono ?_
    rw [hm]
    rintro e w1 ⟨rfl, hb⟩
    have hW : Below w.heap.size w w1 := below_call (below_new _ _) hb (by simp)
    have hz := size_call hb
    have k0 := own_cell (v := .int .u8 2) hb 0 rfl
    have k1 := own_cell (v := .string name) hb 1 rfl
    go_wp2_with fail
    refine (code_Find_yes _ _ (hT.below hW) h1).mono ?_
    rintro e w2 ⟨rfl, hb2⟩
    have hW2 : Below w.heap.size w w2 := below_call hW hb2 (by omega)
    have hz2 := hb2.size
    go_wp2_with fail
    go_ret2
    exact ⟨by simp [sizeB], by repeat (first | exact hW2 | refine Below.drew ?_ | refine below_drewN ?_ _ | refine below_set ?_ _ (by omega) | refine below_alloc ?_ _ (by simp; omega) | refine below_alloc ?_ _ (by omega) | refine below_alloc ?_ _ (by simp))⟩
  · have b2 : (kind == 2) = false := by simpa using h2
    by_cases h3 : kind = 3
    · subst h3
      go_enter Tryd.func52, Tryd.ntmps52
      go_wp2_with fail
      refine (source_may 3 arg part name label A n c _ (Tabs.alloc hT _) ha0 ha1 hs hl hn).mono ?_
      rw [hm]
      rintro e w1 ⟨rfl, hb⟩
      have hW : Below w.heap.size w w1 := below_call (below_new _ _) hb (by simp)
      have k0 := own_cell (v := .int .u8 3) hb 0 rfl
      have k5 := own_cell (v := .slice A n c) hb 5 rfl
      go_wp2_with fail
      go_ret2
      exact ⟨by simp [sizeB], hW⟩
    · have b3 : (kind == 3) = false := by simpa using h3
      by_cases h5 : kind = 5
      · subst h5
        go_enter Tryd.func52, Tryd.ntmps52
        go_wp2_with fail
        refine (source_may 5 arg part name label A n c _ (Tabs.alloc hT _) ha0 ha1 hs hl hn).mono ?_
        rw [hm]
        rintro e w1 ⟨rfl, hb⟩
        have hW : Below w.heap.size w w1 := below_call (below_new _ _) hb (by simp)
        have k0 := own_cell (v := .int .u8 5) hb 0 rfl
        go_wp2_with fail
        go_ret2
        exact ⟨by simp [sizeB], hW⟩
      · have b5 : (kind == 5) = false := by simpa using h5
        have e : sizeB kind name n = 0 := by unfold sizeB; rw [if_neg h2, if_neg h3, if_neg h5]
        rw [e]
        clear e h2 h3 h5
        go_enter Tryd.func52, Tryd.ntmps52
        go_wp2_with fail
        refine (source_may kind arg part name label A n c _ (Tabs.alloc hT _) ha0 ha1 hs hl hn).mono ?_
        rw [hm]
        rintro e w1 ⟨rfl, hb⟩
        have hW : Below w.heap.size w w1 := below_call (below_new _ _) hb (by simp)
        have k0 := own_cell (v := .int .u8 kind) hb 0 rfl
        go_wp2_with fail
        go_ret2
        exact ⟨rfl, hW⟩
end Go.Proofs.YtpjdkdphklgfjaaDoor
