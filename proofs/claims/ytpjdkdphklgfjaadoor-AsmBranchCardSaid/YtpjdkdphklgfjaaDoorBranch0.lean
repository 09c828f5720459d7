/- A short branch from an address to another one, in plain Lean. -/
import Derived.Test.YtpjdkdphklgfjaaDoorAsmOk
namespace Go.Proofs.YtpjdkdphklgfjaaDoor
set_option linter.unusedVariables false
set_option linter.unusedSimpArgs false

def branchNames : List ByteArray := [⟨#[66, 82]⟩, ⟨#[66, 90]⟩, ⟨#[66, 78, 70]⟩, ⟨#[66, 52]⟩, ⟨#[66, 78, 49]⟩, ⟨#[66, 81]⟩]
def toS : ByteArray := ⟨#[116, 111]⟩
def branchItems (at_ to_ : Int) (nm : ByteArray) : List Item := [⟨4, ⟨#[]⟩, to_, ⟨#[]⟩, 0, []⟩, ⟨1, toS, 0, ⟨#[]⟩, 0, []⟩, ⟨4, ⟨#[]⟩, at_, ⟨#[]⟩, 0, []⟩, ⟨2, nm, 0, toS, 1, []⟩]

theorem branch_form : ∀ nm ∈ branchNames, 0 ≤ firstI nm ∧ formI (firstI nm) = 5 := by decide +kernel
theorem to_name : isName toS = true := by decide +kernel
theorem branch_may (at_ to_ : Int) (nm : ByteArray) (hn : nm ∈ branchNames) (ha0 : 0 ≤ at_) (ha1 : at_ ≤ 65535) (ht0 : 0 ≤ to_) (ht1 : to_ ≤ 65535) : ∀ x ∈ branchItems at_ to_ nm, x.may = true := by
  obtain ⟨f0, f1⟩ := branch_form nm hn
  intro x hx
  simp only [branchItems, List.mem_cons, List.mem_nil_iff, or_false] at hx
  rcases hx with rfl | rfl | rfl | rfl
  · simp [Item.may, mayB, plainB, ByteArray.toList_eq, ht0, ht1]
  · simp [Item.may, mayB, plainB, ByteArray.toList_eq, to_name]
  · simp [Item.may, mayB, plainB, ByteArray.toList_eq, ha0, ha1]
  · have h1 : ¬ firstI nm < 0 := by omega
    simp [Item.may, mayB, instrB, h1, to_name, f1, partB]
theorem badFrom_may (l : List Item) (h : ∀ x ∈ l, x.may = true) : ∀ i, badFrom l i = none := by
  induction l with
  | nil => intro i; rfl
  | cons x l ih => intro i; unfold badFrom; rw [h x (List.mem_cons_self ..), if_pos rfl]; exact ih (fun y hy => h y (List.mem_cons_of_mem _ hy)) _
theorem check_may {l : List Item} (h : ∀ x ∈ l, x.may = true) (hn : l.length ≤ 4096) : checkI l = (0, 0) := by
  unfold checkI
  rw [if_neg (by omega), badFrom_may l h]

/-- What the assembler makes of it. -/
theorem branch_asm (at_ to_ : Int) (nm : ByteArray) (hn : nm ∈ branchNames) (ha0 : 0 ≤ at_) (ha1 : at_ ≤ 65535) (ht0 : 0 ≤ to_) (ht1 : to_ ≤ 65535) :
    (at_ = 65535 → asmI (branchItems at_ to_ nm) = .inl (143, 3)) ∧ (at_ ≠ 65535 → to_ / 256 ≠ (at_ + 1) / 256 → asmI (branchItems at_ to_ nm) = .inl (142, 3)) ∧
      (at_ ≠ 65535 → to_ / 256 = (at_ + 1) / 256 → ∃ s M, asmI (branchItems at_ to_ nm) = .inr (s, M) ∧ s.K (at_.toNat + 1) ≠ 0 ∧ M (at_.toNat + 1) = to_ % 256) := by
  obtain ⟨f0, f1⟩ := branch_form nm hn
  have hck := check_may (branch_may at_ to_ nm hn ha0 ha1 ht0 ht1) (by simp [branchItems])
  have hz : (⟨2, nm, 0, toS, 1, []⟩ : Item).size = 2 := by simp [Item.size, sizeB, f1, lenI, lensT]
  have hz1 : (⟨1, toS, 0, ⟨#[]⟩, 0, []⟩ : Item).size = 0 := by simp [Item.size, sizeB]
  have s1 : layStep lay0 ⟨4, ⟨#[]⟩, to_, ⟨#[]⟩, 0, []⟩ = .inr ⟨to_, [0], [], fun _ => 0⟩ := by simp [layStep, lay0]
  have s2 : layStep ⟨to_, [0], [], fun _ => 0⟩ ⟨1, toS, 0, ⟨#[]⟩, 0, []⟩ = .inr ⟨to_, [0, to_], [(toS, to_)], fun _ => 0⟩ := by
    unfold layStep
    rw [if_neg (by simp), if_neg (by simp; omega), if_neg (by simp [lookL])]
    simp only [hz1]
    rw [if_neg (by omega), if_neg (by simp [takenK])]
    have : setK (fun _ => 0) to_.toNat 0 (kindOf ⟨1, toS, 0, ⟨#[]⟩, 0, []⟩) = fun _ => 0 := setK_zero _ _ _
    simp only [Int.toNat_zero, this, Int.add_zero]
    rfl
  have s3 : layStep ⟨to_, [0, to_], [(toS, to_)], fun _ => 0⟩ ⟨4, ⟨#[]⟩, at_, ⟨#[]⟩, 0, []⟩ = .inr ⟨at_, [0, to_, to_], [(toS, to_)], fun _ => 0⟩ := by simp [layStep]
  have hl : ∀ r, layStep ⟨at_, [0, to_, to_], [(toS, to_)], fun _ => 0⟩ ⟨2, nm, 0, toS, 1, []⟩ = r → layFrom (branchItems at_ to_ nm) lay0 0 = match r with | .inl e => .inl (e, 3) | .inr s' => .inr s' := by
    intro r hr
    unfold branchItems layFrom
    rw [s1]
    simp only
    unfold layFrom
    rw [s2]
    simp only
    unfold layFrom
    rw [s3]
    simp only
    unfold layFrom
    rw [hr]
    cases r <;> rfl
  have s4 : layStep ⟨at_, [0, to_, to_], [(toS, to_)], fun _ => 0⟩ ⟨2, nm, 0, toS, 1, []⟩ = if at_ = 65535 then .inl 143 else .inr ⟨at_ + 2, [0, to_, to_, at_], [(toS, to_)], setK (fun _ => 0) at_.toNat 2 1⟩ := by
    unfold layStep
    rw [if_neg (by simp), if_neg (by simp), if_neg (by simp)]
    simp only [hz]
    by_cases h : at_ = 65535
    · rw [if_pos (by omega), if_pos h]
    · rw [if_neg (by omega), if_neg h, if_neg (by simp [takenK])]
      simp [labsOf, kindOf]
  have hlay := hl _ s4
  have hasm : asmI (branchItems at_ to_ nm) = match layFrom (branchItems at_ to_ nm) lay0 0 with
    | .inl e => .inl e
    | .inr s => match fillFrom s.labs (branchItems at_ to_ nm) s.ats (fun _ => 0) 0 with
      | .inl e => .inl e
      | .inr M => .inr (s, M) := if_pos (show (checkI (branchItems at_ to_ nm)).1 = 0 by rw [hck])
  have g0 : ∀ (x : Item), x.kind = 4 → ∀ p M, fillStep [(toS, to_)] x p M = .inr M := by
    intro x hx p M
    have h1 : ¬ x.kind = 2 := by omega
    have h2 : ¬ x.kind = 3 := by omega
    have h3 : ¬ x.kind = 5 := by omega
    unfold fillStep wantI asksI layBytes
    simp only [if_neg h1, if_neg h2, if_neg h3]
    have : setM M p.toNat [] = M := by funext i; unfold setM; rw [if_neg (by simp)]
    simp [this]
  have g0a := g0 ⟨4, ⟨#[]⟩, to_, ⟨#[]⟩, 0, []⟩ rfl
  have g0b := g0 ⟨4, ⟨#[]⟩, at_, ⟨#[]⟩, 0, []⟩ rfl
  have g1 : ∀ p M, fillStep [(toS, to_)] ⟨1, toS, 0, ⟨#[]⟩, 0, []⟩ p M = .inr M := by
    intro p M
    have : setM M p.toNat [] = M := by funext i; unfold setM; rw [if_neg (by simp)]
    simp [fillStep, wantI, asksI, layBytes, this]
  have w2 : wantI [(toS, to_)] ⟨2, nm, 0, toS, 1, []⟩ = some to_ := by simp [wantI, asksI, lookL]
  refine ⟨fun h => ?_, fun h hp => ?_, fun h hp => ?_⟩
  · rw [hasm, hlay, if_pos h]
  · rw [hasm, hlay, if_neg h]
    simp only
    have g3 : fillStep [(toS, to_)] ⟨2, nm, 0, toS, 1, []⟩ at_ (fun _ => 0) = .inl 142 := by
      unfold fillStep
      rw [w2]
      simp only
      have hb : layBytes ⟨2, nm, 0, toS, 1, []⟩ at_ to_ = ([], 142) := by
        unfold layBytes ordBytes
        simp only [if_pos]
        rw [if_neg (by decide), if_pos ⟨f1, hp⟩]
      rw [hb]
      rfl
    unfold branchItems
    simp only [fillFrom, g0a, g0b, g1, g3]
    rfl
  · have hb : layBytes ⟨2, nm, 0, toS, 1, []⟩ at_ to_ = ([firstI nm, to_ % 256 % 256], 0) := by
      unfold layBytes ordBytes ordArg encI
      simp only [if_pos]
      have ho : (if (1 : Int) = 2 then to_ / 256 else if (1 : Int) = 3 ∨ (5 : Int) = 5 then to_ % 256 else to_) = to_ % 256 := by rw [if_neg (by decide), if_pos (Or.inr rfl)]
      have h1 : ¬ (to_ % 256 < lowI 5 (firstI nm) ∨ highI 5 < to_ % 256) := by simp [lowI, highI]; omega
      rw [if_neg (by decide), if_neg (by intro hc; exact hc.2 hp), if_neg (by omega), f1, ho, if_neg h1]
      simp [opBytes]
    have g3 : fillStep [(toS, to_)] ⟨2, nm, 0, toS, 1, []⟩ at_ (fun _ => 0) = .inr (setM (fun _ => 0) at_.toNat [firstI nm, to_ % 256 % 256]) := by
      unfold fillStep
      rw [w2]
      simp only
      rw [hb]
      rfl
    refine ⟨⟨at_ + 2, [0, to_, to_, at_], [(toS, to_)], setK (fun _ => 0) at_.toNat 2 1⟩, setM (fun _ => 0) at_.toNat [firstI nm, to_ % 256 % 256], ?_, ?_, ?_⟩
    · rw [hasm, hlay, if_neg h]
      simp only
      have : fillFrom [(toS, to_)] (branchItems at_ to_ nm) [0, to_, to_, at_] (fun _ => 0) 0 = .inr (setM (fun _ => 0) at_.toNat [firstI nm, to_ % 256 % 256]) := by
        unfold branchItems
        simp only [fillFrom, g0a, g0b, g1, g3]
      rw [this]
    · show setK (fun _ => 0) at_.toNat 2 1 (at_.toNat + 1) ≠ 0
      unfold setK
      rw [if_pos (by omega)]
      decide
    · unfold setM
      rw [if_pos (by simp)]
      simp
end Go.Proofs.YtpjdkdphklgfjaaDoor
