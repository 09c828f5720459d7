/- What asm.Check says of an object, in plain Lean. -/
import Derived.Test.YtpjdkdphklgfjaaDoorItems
import Derived.Test.YtpjdkdphklgfjaaDoorSort2
import Derived.Test.YtpjdkdphklgfjaaDoorLay
namespace Go.Proofs.YtpjdkdphklgfjaaDoor
set_option linter.unusedVariables false
set_option linter.unusedSimpArgs false

/-- Are bytes whole instructions? -/
def wholeF : Nat → List Int → Bool
  | _, [] => true
  | 0, _ :: _ => false
  | f + 1, b :: l => match decN (b :: l) with
    | none => false
    | some n => wholeF f ((b :: l).drop n.toNat)
def wholeB (l : List Int) : Bool := wholeF l.length l

/-- Blocks, each behind the address 'e'. -/
def blocksB : Int → List (Int × List Int) → Bool
  | _, [] => true
  | e, p :: l => if p.1 ≤ e ∨ p.1 < 0 ∨ p.2.length = 0 ∨ 65536 ≤ p.1 ∨ 65536 - p.1 < p.2.length then false else blocksB (p.1 + p.2.length) l

/-- May a mark stand at a place of a block? (prev: the kind of the one ahead of it in the block.) -/
def markOk (A : Int) (bs : List Int) (pos : Nat) (prev : Option Bool) (m : Int × Int × Bool) : Bool :=
  m.1 == A + pos && decide (1 ≤ m.2.1) && decide (m.2.1 ≤ (bs.length : Int) - pos) && prev != some m.2.2 && (!m.2.2 || wholeB ((bs.drop pos).take m.2.1.toNat))
/-- The marks of a block from a place on: what is left of the marks. -/
def marksIn (A : Int) (bs : List Int) : List (Int × Int × Bool) → Nat → Option Bool → Option (List (Int × Int × Bool))
  | [], pos, _ => if pos < bs.length then none else some []
  | m :: t, pos, prev => if pos < bs.length then (if markOk A bs pos prev m then marksIn A bs t (pos + m.2.1.toNat) (some m.2.2) else none) else some (m :: t)
def markedB : List (Int × List Int) → List (Int × Int × Bool) → Bool
  | [], ms => ms.isEmpty
  | b :: l, ms => match marksIn b.1 b.2 ms 0 none with
    | none => false
    | some t => markedB l t

def seenL (seen : List ByteArray) : List (ByteArray × Int) := seen.map fun s => (s, 1)
theorem seenL_none : ∀ {seen : List ByteArray} {s : ByteArray}, s ∉ seen → lookL (seenL seen) s = none
  | [], _, _ => rfl
  | q :: l, s, h => by
    show (if q = s then some 1 else lookL (seenL l) s) = none
    rw [if_neg (fun e => h (by rw [e]; exact List.mem_cons_self ..)), seenL_none (fun hm => h (List.mem_cons_of_mem _ hm))]
/-- May a label stand behind these ones? -/
def labelOk (seen : List ByteArray) (prev : Option (ByteArray × Int)) (p : ByteArray × Int) : Bool :=
  isName p.1 && decide (0 ≤ p.2) && decide (p.2 < 65536) && !((lookL (seenL seen) p.1).isSome) && (match prev with | none => true | some q => decide (labCmp q p ≤ 0))
def labelsB : List ByteArray → Option (ByteArray × Int) → List (ByteArray × Int) → Bool
  | _, _, [] => true
  | seen, prev, p :: l => if labelOk seen prev p then labelsB (p.1 :: seen) (some p) l else false
/-- May an object be? -/
def objB (bs : List (Int × List Int)) (mk : List (Int × Int × Bool)) (ns : List (ByteArray × Int)) : Bool := blocksB (-1) bs && markedB bs mk && labelsB [] none ns

theorem decN_range {l : List Int} {n : Int} (h : decN l = some n) : 1 ≤ n ∧ n ≤ 3 ∧ n ≤ l.length := by
  unfold decN at h
  match l, h with
  | b :: t, h =>
    simp only at h
    split at h
    · cases h
    · cases h
      have h1 := formI_range b
      have : formI b = 1 ∨ formI b = 2 ∨ formI b = 3 ∨ formI b = 4 ∨ formI b = 5 ∨ formI b = 6 := by omega
      rename_i hn
      rcases this with e | e | e | e | e | e <;> rw [e] at hn ⊢ <;> simp [lenI, lensT] at hn ⊢ <;> omega

theorem wholeF_fuel : ∀ (f g : Nat) (l : List Int), l.length ≤ f → l.length ≤ g → wholeF f l = wholeF g l
  | f, g, [], _, _ => by cases f <;> cases g <;> rfl
  | 0, _, _ :: _, h, _ => by simp at h
  | _, 0, _ :: _, _, h => by simp at h
  | f + 1, g + 1, b :: l, hf, hg => by
    unfold wholeF
    cases hd : decN (b :: l) with
    | none => rfl
    | some n =>
      have := decN_range hd
      simp only [List.length_cons] at hf hg
      exact wholeF_fuel f g _ (by simp; omega) (by simp; omega)
theorem wholeB_some {l : List Int} {n : Int} (h : decN l = some n) : wholeB l = wholeB (l.drop n.toNat) := by
  match l, h with
  | b :: t, h =>
    have := decN_range h
    unfold wholeB
    conv => lhs; rw [List.length_cons]; unfold wholeF
    rw [h]
    exact wholeF_fuel _ _ _ (by simp; omega) (by simp)
theorem wholeB_none {l : List Int} (h : decN l = none) (hl : l ≠ []) : wholeB l = false := by
  match l, h with
  | [], _ => exact absurd rfl hl
  | b :: t, h =>
    unfold wholeB
    rw [List.length_cons]
    unfold wholeF
    rw [h]
end Go.Proofs.YtpjdkdphklgfjaaDoor
