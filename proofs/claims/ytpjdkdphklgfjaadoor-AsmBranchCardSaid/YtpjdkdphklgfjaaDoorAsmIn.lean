/- The numbers of an assembled object are ones that memory has, in plain Lean. -/
import Derived.Test.YtpjdkdphklgfjaaDoorAsmOk
import Derived.Test.YtpjdkdphklgfjaaDoorObjMem
namespace Go.Proofs.YtpjdkdphklgfjaaDoor
set_option linter.unusedVariables false
set_option linter.unusedSimpArgs false

theorem opBytes_range (f op arg : Int) (h0 : 0 ≤ op) (h1 : op ≤ 255) (ha0 : 0 ≤ arg) (ha1 : arg ≤ 65535) : ∀ y ∈ opBytes f op arg, 0 ≤ y ∧ y ≤ 255 := by
  intro y hy
  unfold opBytes at hy
  repeat' split at hy
  all_goals simp at hy
  all_goals first | (subst hy; omega) | (rcases hy with rfl | rfl | rfl <;> omega) | (rcases hy with rfl | rfl <;> omega)
theorem low_ge (f op : Int) : 0 ≤ lowI f op := by unfold lowI; repeat' split <;> omega
theorem high_le (f : Int) : highI f ≤ 65535 := by unfold highI; repeat' split <;> omega
theorem encI_range {s : ByteArray} {arg : Int} (h : (encI s arg).2 = 0) : ∀ y ∈ (encI s arg).1, 0 ≤ y ∧ y ≤ 255 := by
  obtain ⟨h0, h1, h2, e⟩ := encI_ok h
  have hr := firstI_range s
  have hl := low_ge (formI (firstI s)) (firstI s)
  have hh := high_le (formI (firstI s))
  rw [e]
  exact opBytes_range _ _ _ h0 hr.2 (by omega) (by omega)
theorem layBytes_range {x : Item} {p a : Int} (h : (layBytes x p a).2 = 0) (hx : ∀ y ∈ x.bytes, 0 ≤ y ∧ y ≤ 255) (ha0 : 0 ≤ a) (ha1 : a ≤ 65535) : ∀ y ∈ (layBytes x p a).1, 0 ≤ y ∧ y ≤ 255 := by
  unfold layBytes at h ⊢
  by_cases h2 : x.kind = 2
  · rw [if_pos h2] at h ⊢
    obtain ⟨arg', e, h'⟩ := ordBytes_ok h
    rw [e]
    exact encI_range h'
  · rw [if_neg h2] at h ⊢
    by_cases h3 : x.kind = 3
    · rw [if_pos h3]; exact hx
    · rw [if_neg h3]
      by_cases h5 : x.kind = 5
      · rw [if_pos h5]
        intro y hy
        simp at hy
        rcases hy with rfl | rfl <;> omega
      · rw [if_neg h5]; intro y hy; simp at hy
theorem AsmOk.want {l : List Item} {s : LayS} {M : Nat → Int} (h : AsmOk l s M) {x : Item} {a : Int} (hw : wantI s.labs x = some a) : 0 ≤ a ∧ a ≤ 65535 := by
  unfold wantI at hw
  cases hq : asksI x with
  | none => rw [hq] at hw; cases hw; omega
  | some nm =>
    rw [hq] at hw
    exact lookL_range h.ok.labs hw
theorem AsmOk.range {l : List Item} {s : LayS} {M : Nat → Int} (h : AsmOk l s M) (hwf : ∀ x ∈ l, x.wf) (i : Nat) : 0 ≤ M i ∧ M i ≤ 255 := by
  by_cases hin : ∃ q ∈ l.zip s.ats, inside q i
  · obtain ⟨q, hq, hi⟩ := hin
    obtain ⟨a, h1, h2, h3⟩ := h.bytes q hq
    have ha := h.want h1
    have hl := layBytes_length h2
    rw [h3 i hi]
    obtain ⟨_, _, _, _, _, _, _, _, _, hx⟩ := hwf _ (List.of_mem_zip hq).1
    have hr := layBytes_range h2 hx ha.1 ha.2
    have hlt : i - q.2.toNat < (layBytes q.1 q.2 a).1.length := by have := hi.1; have := hi.2; omega
    rw [List.getD_eq_getElem?_getD, List.getElem?_eq_getElem hlt]
    exact hr _ (List.getElem_mem hlt)
  · rw [h.zero i (fun q hq hi => hin ⟨q, hq, hi⟩)]
    omega
theorem runLen_le (K : Nat → Int) (v : Int) : ∀ (n a : Nat), runLen K v a n ≤ n
  | 0, _ => Nat.le_refl _
  | n + 1, a => by unfold runLen; split <;> have := runLen_le K v n (a + 1) <;> omega
theorem nzLen_le (K : Nat → Int) : ∀ (n a : Nat), nzLen K a n ≤ n
  | 0, _ => Nat.le_refl _
  | n + 1, a => by unfold nzLen; split <;> have := nzLen_le K n (a + 1) <;> omega
theorem blocksTo_mem {K M : Nat → Int} {p : Int × List Int} (h : p ∈ blocksTo K M 65536) : ∃ i : Nat, i < 65536 ∧ p.1 = (i : Int) ∧ p.2 = (List.range (nzLen K i (65536 - i))).map fun j => M (i + j) := by
  unfold blocksTo at h
  rw [List.mem_filterMap] at h
  obtain ⟨i, hi, hb⟩ := h
  unfold blockAt at hb
  split at hb
  · cases hb; exact ⟨i, List.mem_range.1 hi, rfl, rfl⟩
  · cases hb
theorem marksTo_mem {K : Nat → Int} {p : Int × Int × Bool} (h : p ∈ marksTo K 65536) : ∃ i : Nat, i < 65536 ∧ p.1 = (i : Int) ∧ p.2.1 = (runLen K (K i) i (65536 - i) : Int) := by
  unfold marksTo at h
  rw [List.mem_filterMap] at h
  obtain ⟨i, hi, hb⟩ := h
  unfold markAt at hb
  split at hb
  · cases hb; exact ⟨i, List.mem_range.1 hi, rfl, rfl⟩
  · cases hb
theorem AsmOk.objIn {l : List Item} {s : LayS} {M : Nat → Int} (h : AsmOk l s M) (hwf : ∀ x ∈ l, x.wf) : ObjIn (blocksTo s.K M 65536) (marksTo s.K 65536) (sortedLabs s.labs) := by
  refine ⟨?_, ?_, ?_, ?_, ?_⟩
  · intro b hb y hy
    obtain ⟨i, _, _, e⟩ := blocksTo_mem hb
    rw [e] at hy
    obtain ⟨j, _, rfl⟩ := List.mem_map.1 hy
    exact h.range hwf _
  · intro b hb
    obtain ⟨i, hi, e1, e⟩ := blocksTo_mem hb
    have := nzLen_le s.K (65536 - i) i
    rw [e1, e]
    simp
    omega
  · intro m hm
    obtain ⟨i, hi, e1, e⟩ := marksTo_mem hm
    have := runLen_le s.K (s.K i) (65536 - i) i
    rw [e1, e]
    omega
  · intro p hp
    have hp' : p ∈ s.labs := (List.mergeSort_perm s.labs _).mem_iff.1 hp
    have := h.ok.labs p hp'
    omega
  · have hl : (blocksTo s.K M 65536).length ≤ 65536 := by unfold blocksTo; exact Nat.le_trans (List.length_filterMap_le _ _) (by simp)
    have hm : (marksTo s.K 65536).length ≤ 65536 := by unfold marksTo; exact Nat.le_trans (List.length_filterMap_le _ _) (by simp)
    have hs : (sortedLabs s.labs).length = s.labs.length := (List.mergeSort_perm s.labs _).length_eq
    have hn : s.labs.length ≤ l.length := by
      rw [h.laid.labs, List.length_reverse]
      refine Nat.le_trans (List.length_filterMap_le _ _) ?_
      rw [List.length_zip]
      exact Nat.min_le_left _ _
    have := h.short
    omega
/-- What the object's bytes are, laid down. -/
theorem AsmOk.mem_at {l : List Item} {s : LayS} {M : Nat → Int} (h : AsmOk l s M) (i : Nat) (hi : i < 65536) : layBl (fun _ => 0) (blocksTo s.K M 65536) i = M i := by
  rw [mem_ok _ _ _ hi]
  by_cases hz : s.K i ≠ 0
  · rw [if_pos hz]
  · rw [if_neg hz]
    refine (h.zero i ?_).symm
    intro q hq hin
    rw [h.laid.kind q hq i hin] at hz
    exact hz (kindOf_ne _)
end Go.Proofs.YtpjdkdphklgfjaaDoor
