/- The zero value of the assembler's 'laying': three cells, and 131072 bytes that are 0. -/
import Derived.Test.YtpjdkdphklgfjaaDoorAsm2
namespace Go.Proofs.YtpjdkdphklgfjaaDoor
open Go.RowKit

def AllZ (l : List Value) : Prop := ∀ v ∈ l, v = .int .u8 0
theorem allZ_append (a b : List Value) : AllZ (List.append a b) ↔ (AllZ a ∧ AllZ b) := by
  unfold AllZ
  constructor
  · intro h
    exact ⟨fun v hv => h v (List.mem_append_left _ hv), fun v hv => h v (List.mem_append_right _ hv)⟩
  · rintro ⟨h1, h2⟩ v hv
    rcases List.mem_append.1 hv with hv | hv
    · exact h1 v hv
    · exact h2 v hv
def HeadZ (l : List Value) : Prop := ∃ t, l = .slice none 0 0 :: .slice none 0 0 :: .map none :: t ∧ AllZ t
theorem headZ_append {a b : List Value} (ha : HeadZ a) (hb : AllZ b) : HeadZ (List.append a b) := by
  obtain ⟨t, rfl, ht⟩ := ha
  exact ⟨List.append t b, rfl, (allZ_append t b).2 ⟨ht, hb⟩⟩

theorem allZ_two {a : List Value} (h : AllZ a) : AllZ (List.append a a) := (allZ_append a a).2 ⟨h, h⟩
theorem allZ_both {a b : List Value} (ha : AllZ a) (hb : AllZ b) : AllZ (List.append a b) := (allZ_append a b).2 ⟨ha, hb⟩
theorem allZ_cons {l : List Value} (h : AllZ l) : AllZ (.int .u8 0 :: l) := by
  intro v hv
  rcases List.mem_cons.1 hv with rfl | hv
  · rfl
  · exact h v hv
theorem allZ_nil : AllZ [] := fun v hv => by cases hv

set_option maxRecDepth 100000 in
theorem zero_cells : HeadZ Tryd.zeroCells74.toList := by
  unfold Tryd.zeroCells74
  simp only [List.toList_toArray]
  repeat (with_reducible refine headZ_append ?_ ?_)
  · refine ⟨_, rfl, ?_⟩
    repeat (with_reducible refine allZ_cons ?_)
    exact allZ_nil
  all_goals
    repeat' (first | with_reducible exact allZ_nil | with_reducible refine allZ_cons ?_ | with_reducible refine allZ_two ?_ | with_reducible refine allZ_both ?_ ?_)
end Go.Proofs.YtpjdkdphklgfjaaDoor
