/- What Assemble comes to, in plain Lean. -/
import Derived.Test.YtpjdkdphklgfjaaDoorFill3
import Derived.Test.YtpjdkdphklgfjaaDoorObj2b
namespace Go.Proofs.YtpjdkdphklgfjaaDoor
set_option linter.unusedVariables false
set_option linter.unusedSimpArgs false

/-- What Assemble comes to: an error and a number, or where all lies and the bytes. -/
def asmI (l : List Item) : (Int × Int) ⊕ (LayS × (Nat → Int)) :=
  if (checkI l).1 = 0 then
    match layFrom l lay0 0 with
    | .inl e => .inl e
    | .inr s => match fillFrom s.labs l s.ats (fun _ => 0) 0 with
      | .inl e => .inl e
      | .inr M => .inr (s, M)
  else .inl (checkI l)

theorem badFrom_none (l : List Item) : ∀ i, badFrom l i = none → ∀ x ∈ l, x.may = true := by
  induction l with
  | nil => intro i h x hx; cases hx
  | cons y l ih =>
    intro i h x hx
    unfold badFrom at h
    cases hm : y.may
    · rw [hm, if_neg (by simp)] at h; cases h
    · rw [hm, if_pos rfl] at h
      rcases List.mem_cons.1 hx with rfl | hx
      · exact hm
      · exact ih _ h x hx
theorem check_ok {l : List Item} (h : (checkI l).1 = 0) : l.length ≤ 4096 ∧ (∀ x ∈ l, x.may = true) ∧ checkI l = (0, 0) := by
  unfold checkI at h ⊢
  by_cases hn : 4096 < l.length
  · rw [if_pos hn] at h; cases h
  · rw [if_neg hn] at h ⊢
    cases hb : badFrom l 0 with
    | some i => rw [hb] at h; cases h
    | none => exact ⟨by omega, badFrom_none l 0 hb, rfl⟩

theorem layStep_err {s : LayS} {x : Item} {e : Int} (h : layStep s x = .inl e) : e ≠ 0 := by
  unfold layStep at h
  repeat' split at h
  all_goals cases h
  all_goals decide
theorem layFrom_err (l : List Item) : ∀ (s : LayS) (i : Int) (p : Int × Int), layFrom l s i = .inl p → p.1 ≠ 0 := by
  induction l with
  | nil => intro s i p h; cases h
  | cons x l ih =>
    intro s i p h
    unfold layFrom at h
    cases hs : layStep s x with
    | inl e => rw [hs] at h; cases h; exact layStep_err hs
    | inr s' => rw [hs] at h; exact ih _ _ _ h
theorem fillFrom_err (labs : List (ByteArray × Int)) : ∀ (l : List Item) (ps : List Int) (M : Nat → Int) (i : Int) (p : Int × Int), fillFrom labs l ps M i = .inl p → p.1 ≠ 0
  | [], _, M, i, p, h => by simp [fillFrom] at h
  | x :: l, [], M, i, p, h => by simp [fillFrom] at h
  | x :: l, q :: ps, M, i, p, h => by
    unfold fillFrom at h
    cases hs : fillStep labs x q M with
    | inl e =>
      rw [hs] at h
      cases h
      unfold fillStep at hs
      split at hs
      · cases hs; show (141 : Int) ≠ 0; decide
      · split at hs
        · cases hs
        · rename_i h2; cases hs; exact h2
    | inr M' => rw [hs] at h; exact fillFrom_err labs l ps M' _ p h

theorem layFrom_labs (l : List Item) : ∀ (s : LayS) (i : Int) (s' : LayS), layFrom l s i = .inr s' → s'.labs.length ≤ s.labs.length + l.length := by
  induction l with
  | nil => intro s i s' h; cases h; simp
  | cons x l ih =>
    intro s i s' h
    unfold layFrom at h
    cases hs : layStep s x with
    | inl e => rw [hs] at h; cases h
    | inr s1 =>
      rw [hs] at h
      have h1 := ih _ _ _ h
      have h2 := labs_step hs
      simp
      omega
end Go.Proofs.YtpjdkdphklgfjaaDoor
