/- The walks of the assembler's things: thingOf, asks, and the four methods 'lay'. -/
import Derived.Test.YtpjdkdphklgfjaaDoorSource4
namespace Go.Proofs.YtpjdkdphklgfjaaDoor
open Go.RowKit Go.Shelf
set_option linter.unusedVariables false
set_option linter.unusedSimpArgs false

/-- What thingOf answers of an item whose bytes are the slice 'sv'. -/
def thingV (kind : Int) (name : ByteArray) (arg : Int) (label : ByteArray) (part : Int) (sv : Value) : Value :=
  if kind = 2 then .iface 120 (.agg #[.int .u8 2, .string name, .int .i64 arg, .string label, .int .u8 part, sv])
  else if kind = 3 then .iface 121 sv
  else if kind = 5 then .iface 122 (.string label)
  else .iface 124 (.agg #[])

set_option maxRecDepth 100000 in
set_option maxHeartbeats 1000000 in
theorem asm_thingOf (kind arg part : Int) (name label : ByteArray) (A : Option Addr) (n c : Nat) (w : World) :
    Calls Tryd.prog 53 #[.agg #[.int .u8 kind, .string name, .int .i64 arg, .string label, .int .u8 part, .slice A n c]] w fun e w' =>
      e = .returned (thingV kind name arg label part (.slice A n c)) ∧ Below w.heap.size w w' := by
  by_cases h2 : kind = 2
  · subst h2
    go_enter Tryd.func53, Tryd.ntmps53
    go_wp2_with fail
    go_ret
    exact ⟨rfl, below_new _ _⟩
  · have b2 : (kind == 2) = false := by simpa using h2
    by_cases h3 : kind = 3
    · subst h3
      go_enter Tryd.func53, Tryd.ntmps53
      go_wp2_with fail
      go_ret
      exact ⟨rfl, below_new _ _⟩
    · have b3 : (kind == 3) = false := by simpa using h3
      by_cases h5 : kind = 5
      · subst h5
        go_enter Tryd.func53, Tryd.ntmps53
        go_wp2_with fail
        go_ret
        exact ⟨rfl, below_new _ _⟩
      · have b5 : (kind == 5) = false := by simpa using h5
        have e : thingV kind name arg label part (.slice A n c) = .iface 124 (.agg #[]) := by unfold thingV; rw [if_neg h2, if_neg h3, if_neg h5]
        rw [e]
        clear e h2 h3 h5
        go_enter Tryd.func53, Tryd.ntmps53
        go_wp2_with fail
        go_ret
        exact ⟨rfl, below_new _ _⟩

theorem ta_order (kind arg part : Int) (name label : ByteArray) (sv : Value) (w : World) : Sem.run Tryd.prog (Instr.typeAssert (.iface 120 (.agg #[.int .u8 kind, .string name, .int .i64 arg, .string label, .int .u8 part, sv])) 105 120 true) w = .ok (.tuple #[(.agg #[.int .u8 kind, .string name, .int .i64 arg, .string label, .int .u8 part, sv]), .bool true]) w := by kernel_rfl
theorem ta_bytes1 (sv : Value) (w : World) : Sem.run Tryd.prog (Instr.typeAssert (.iface 121 sv) 105 120 true) w = .ok (.tuple #[(.agg #[.int .u8 0, .string ⟨#[]⟩, .int .i64 0, .string ⟨#[]⟩, .int .u8 0, .slice none 0 0]), .bool false]) w := by kernel_rfl
theorem ta_bytes2 (sv : Value) (w : World) : Sem.run Tryd.prog (Instr.typeAssert (.iface 121 sv) 105 122 true) w = .ok (.tuple #[.string ⟨#[]⟩, .bool false]) w := by kernel_rfl
theorem ta_addr1 (s : ByteArray) (w : World) : Sem.run Tryd.prog (Instr.typeAssert (.iface 122 (.string s)) 105 120 true) w = .ok (.tuple #[(.agg #[.int .u8 0, .string ⟨#[]⟩, .int .i64 0, .string ⟨#[]⟩, .int .u8 0, .slice none 0 0]), .bool false]) w := by kernel_rfl
theorem ta_addr2 (s : ByteArray) (w : World) : Sem.run Tryd.prog (Instr.typeAssert (.iface 122 (.string s)) 105 122 true) w = .ok (.tuple #[.string s, .bool true]) w := by kernel_rfl
theorem ta_none1 (w : World) : Sem.run Tryd.prog (Instr.typeAssert (.iface 124 (.agg #[])) 105 120 true) w = .ok (.tuple #[(.agg #[.int .u8 0, .string ⟨#[]⟩, .int .i64 0, .string ⟨#[]⟩, .int .u8 0, .slice none 0 0]), .bool false]) w := by kernel_rfl
theorem ta_none2 (w : World) : Sem.run Tryd.prog (Instr.typeAssert (.iface 124 (.agg #[])) 105 122 true) w = .ok (.tuple #[.string ⟨#[]⟩, .bool false]) w := by kernel_rfl

set_option maxRecDepth 100000 in
set_option maxHeartbeats 1000000 in
theorem asks_order (kind arg part : Int) (name label : ByteArray) (A : Option Addr) (n c : Nat) (w : World) :
    Calls Tryd.prog 54 #[.iface 120 (.agg #[.int .u8 kind, .string name, .int .i64 arg, .string label, .int .u8 part, .slice A n c])] w fun e w' =>
      e = .returned (.tuple #[.string label, .bool (part != 0)]) ∧ Below w.heap.size w w' := by
  have t1 := ta_order kind arg part name label (.slice A n c)
  go_enter Tryd.func54, Tryd.ntmps54
  go_wp2_with fail
  go_region
  all_goals
    go_wp2
    go_ret2
    exact ⟨rfl, by repeat (first | exact below_new _ _ | refine Below.drew ?_ | refine below_drewN ?_ _ | refine below_set ?_ _ (by omega) | refine below_alloc ?_ _ (by simp; omega) | refine below_alloc ?_ _ (by omega) | refine below_alloc ?_ _ (by simp))⟩
set_option maxRecDepth 100000 in
theorem asks_bytes (A : Option Addr) (n c : Nat) (w : World) :
    Calls Tryd.prog 54 #[.iface 121 (.slice A n c)] w fun e w' => e = .returned (.tuple #[.string ⟨#[]⟩, .bool false]) ∧ Below w.heap.size w w' := by
  have t1 := ta_bytes1 (.slice A n c)
  have t2 := ta_bytes2 (.slice A n c)
  go_enter Tryd.func54, Tryd.ntmps54
  go_wp2_with fail
  go_ret2
  exact ⟨rfl, Below.refl _ _⟩
set_option maxRecDepth 100000 in
theorem asks_addr (s : ByteArray) (w : World) :
    Calls Tryd.prog 54 #[.iface 122 (.string s)] w fun e w' => e = .returned (.tuple #[.string s, .bool true]) ∧ Below w.heap.size w w' := by
  have t1 := ta_addr1 s
  have t2 := ta_addr2 s
  go_enter Tryd.func54, Tryd.ntmps54
  go_wp2_with fail
  go_ret2
  exact ⟨rfl, Below.refl _ _⟩
set_option maxRecDepth 100000 in
theorem asks_none (w : World) :
    Calls Tryd.prog 54 #[.iface 124 (.agg #[])] w fun e w' => e = .returned (.tuple #[.string ⟨#[]⟩, .bool false]) ∧ Below w.heap.size w w' := by
  have t1 := ta_none1
  have t2 := ta_none2
  go_enter Tryd.func54, Tryd.ntmps54
  go_wp2_with fail
  go_ret2
  exact ⟨rfl, Below.refl _ _⟩

/-- What a thing's 'lay' answers: a slice that reads as these bytes, an error. -/
def RetLay (w : World) (xs : List Int) (err : Int) (e : Ending) (w' : World) : Prop :=
  ∃ A c, e = .returned (.tuple #[.slice A xs.length c, .int .i64 err]) ∧ BytesAt w' A xs ∧ Below w.heap.size w w'

theorem lay_bytes (A : Option Addr) (c : Nat) (xs : List Int) (at_ a : Int) (w : World) (h : BytesAt w A xs) :
    Calls Tryd.prog 134 #[.slice A xs.length c, .int .i64 at_, .int .i64 a] w (RetLay w xs 0) := by
  have H := Lib.hid h
  clear h
  go_enter Tryd.func134, Tryd.ntmps134
  go_wp2_with fail
  go_ret2
  exact ⟨A, c, rfl, H.out, Below.refl _ _⟩
theorem lay_none (at_ a : Int) (w : World) :
    Calls Tryd.prog 136 #[.agg #[], .int .i64 at_, .int .i64 a] w (RetLay w [] 0) := by
  go_enter Tryd.func136, Tryd.ntmps136
  go_wp2_with fail
  go_ret2
  exact ⟨none, 0, rfl, .inl rfl, by repeat (first | exact below_new _ _ | refine Below.drew ?_ | refine below_drewN ?_ _ | refine below_set ?_ _ (by omega) | refine below_alloc ?_ _ (by simp; omega) | refine below_alloc ?_ _ (by omega) | refine below_alloc ?_ _ (by simp))⟩
theorem lay_addr (s : ByteArray) (at_ a : Int) (w : World) (h0 : 0 ≤ a) (h1 : a ≤ 65535) :
    Calls Tryd.prog 135 #[.string s, .int .i64 at_, .int .i64 a] w (RetLay w [a / 256, a % 256] 0) := by
  go_enter Tryd.func135, Tryd.ntmps135
  go_wp2_with fail
  go_ret2
  exact RetBytes.new (by simp) rfl rfl rfl (Below.refl _ _) (Nat.le_refl _)
end Go.Proofs.YtpjdkdphklgfjaaDoor
