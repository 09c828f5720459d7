/- An object in memory: its rows, element by element. -/
import Derived.Test.YtpjdkdphklgfjaaDoorChk2
import Derived.Test.YtpjdkdphklgfjaaDoorObj2c
namespace Go.Proofs.YtpjdkdphklgfjaaDoor
open Go.RowKit Go.Shelf Go.Maps
set_option linter.unusedVariables false
set_option linter.unusedSimpArgs false

theorem flat_get {α : Type} (f : α → List Value) (n : Nat) (hf : ∀ x, (f x).length = n) : ∀ (l : List α) (i r : Nat), r < n → (l.flatMap f)[i * n + r]? = (l[i]?).bind fun p => (f p)[r]?
  | [], i, r, _ => by simp
  | p :: l, 0, r, hr => by
    have hl := hf p
    rw [List.flatMap_cons, List.getElem?_append_left (by omega)]
    simp
  | p :: l, i + 1, r, hr => by
    have hl := hf p
    have e : (i + 1) * n + r = n + (i * n + r) := by rw [Nat.succ_mul]; omega
    rw [List.flatMap_cons, List.getElem?_append_right (by omega), hl, e, Nat.add_sub_cancel_left, flat_get f n hf l i r hr, List.getElem?_cons_succ]
theorem flat_nil {α : Type} (f : α → List Value) (n : Nat) (hn : 0 < n) (hf : ∀ x, (f x).length = n) {l : List α} (h : l.flatMap f = []) : l = [] := by
  cases l with
  | nil => rfl
  | cons x l =>
    have := hf x
    rw [List.flatMap_cons, List.append_eq_nil_iff] at h
    rw [h.1] at this
    simp at this
    omega
/-- Where the elements of a row lie. -/
theorem SliceOf.rows {α : Type} {w : World} {v : Value} {l : List α} (f : α → List Value) (n : Nat) (hn : 0 < n) (hf : ∀ x, (f x).length = n) (h : SliceOf w v l.length (l.flatMap f)) :
    (l = [] ∧ ∃ A c, v = .slice A 0 c) ∨ ∃ b off c, v = .slice (some ⟨b, off, none⟩) l.length c ∧ ∀ i x, l[i]? = some x → ∀ r u, (f x)[r]? = some u → w.cell? ⟨b, off + i * n + r, none⟩ = some u := by
  obtain ⟨A, c, rfl, h | ⟨b, off, rfl, hc⟩⟩ := h
  · have := flat_nil f n hn hf h
    subst this
    exact .inl ⟨rfl, A, c, rfl⟩
  · refine .inr ⟨b, off, c, rfl, ?_⟩
    intro i x hx r u hu
    have hr : r < n := by
      have := (List.getElem?_eq_some_iff.1 hu).1
      rw [hf] at this; exact this
    have := hc (i * n + r) u (by rw [flat_get f n hf l i r hr, hx]; exact hu)
    rwa [← Nat.add_assoc] at this

/-- The numbers of an object are ones that memory has. -/
structure ObjIn (bs : List (Int × List Int)) (mk : List (Int × Int × Bool)) (ns : List (ByteArray × Int)) : Prop where
  bytes : ∀ b ∈ bs, ∀ y ∈ b.2, 0 ≤ y ∧ y ≤ 255
  ats : ∀ b ∈ bs, -9223372036854775808 ≤ b.1 ∧ b.1 ≤ 9223372036854775807 ∧ b.2.length ≤ 9223372036854775807
  marks : ∀ m ∈ mk, (-9223372036854775808 ≤ m.1 ∧ m.1 ≤ 9223372036854775807) ∧ -9223372036854775808 ≤ m.2.1 ∧ m.2.1 ≤ 9223372036854775807
  labels : ∀ p ∈ ns, p.1.size ≤ 140737488355328 ∧ -9223372036854775808 ≤ p.2 ∧ p.2 ≤ 9223372036854775807
  many : bs.length ≤ 140737488355328 ∧ mk.length ≤ 140737488355328 ∧ ns.length ≤ 140737488355328

theorem blocksB_mem : ∀ (l : List (Int × List Int)) (e : Int), blocksB e l = true → ∀ b ∈ l, 0 ≤ b.1 ∧ b.1 < 65536 ∧ 0 < b.2.length ∧ b.1 + b.2.length ≤ 65536
  | [], _, _, b, hb => by cases hb
  | q :: l, e, h, b, hb => by
    unfold blocksB at h
    by_cases hc : q.1 ≤ e ∨ q.1 < 0 ∨ q.2.length = 0 ∨ 65536 ≤ q.1 ∨ 65536 - q.1 < q.2.length
    · rw [if_pos hc] at h; cases h
    · rw [if_neg hc] at h
      rcases List.mem_cons.1 hb with rfl | hb
      · omega
      · exact blocksB_mem l _ h b hb
end Go.Proofs.YtpjdkdphklgfjaaDoor
