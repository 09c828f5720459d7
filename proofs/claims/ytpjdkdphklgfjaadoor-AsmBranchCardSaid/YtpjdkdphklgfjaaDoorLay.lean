/- Where items lie, in plain Lean: the first pass of the assembler. -/
import Derived.Test.YtpjdkdphklgfjaaDoorItems
import Derived.Maps.OwnSet
namespace Go.Proofs.YtpjdkdphklgfjaaDoor
open Go.Maps

/-- What the first pass has come to: the place, of each item its address, the labels (the newest first), what lies at an address (0 nothing, 1 code, 2 data). -/
structure LayS where
  place : Int
  ats : List Int
  labs : List (ByteArray × Int)
  K : Nat → Int

def setK (K : Nat → Int) (p n : Nat) (v : Int) : Nat → Int := fun i => if p ≤ i ∧ i < p + n then v else K i
/-- Is one of n addresses from p on taken? -/
def takenK (K : Nat → Int) (p : Nat) : Nat → Bool
  | 0 => false
  | n + 1 => takenK K p n || K (p + n) != 0

def lookL : List (ByteArray × Int) → ByteArray → Option Int
  | [], _ => none
  | p :: l, s => if p.1 = s then some p.2 else lookL l s

/-- The labels behind an item. -/
def labsOf (s : LayS) (x : Item) : List (ByteArray × Int) := if x.kind = 1 then (x.name, s.place) :: s.labs else s.labs
def kindOf (x : Item) : Int := if x.kind = 2 then 1 else 2

/-- One item: an error, or what comes of it. -/
def layStep (s : LayS) (x : Item) : Int ⊕ LayS :=
  if x.kind = 4 then .inr ⟨x.arg, s.ats ++ [s.place], s.labs, s.K⟩
  else if x.kind = 1 ∧ 65536 ≤ s.place then .inl 143
  else if x.kind = 1 ∧ (lookL s.labs x.name).isSome = true then .inl 140
  else if 0 < x.size ∧ 65536 < s.place + x.size then .inl 143
  else if takenK s.K s.place.toNat x.size.toNat = true then .inl 144
  else .inr ⟨s.place + x.size, s.ats ++ [s.place], labsOf s x, setK s.K s.place.toNat x.size.toNat (kindOf x)⟩

def layFrom : List Item → LayS → Int → (Int × Int) ⊕ LayS
  | [], s, _ => .inr s
  | x :: l, s, i => match layStep s x with
    | .inl e => .inl (e, i)
    | .inr s' => layFrom l s' (i + 1)
def lay0 : LayS := ⟨0, [], [], fun _ => 0⟩

/-- The labels as the program's map reads. -/
def mapOf : List (ByteArray × Int) → DataW Unit
  | [] => .map []
  | p :: l => (mapOf l).put (.string p.1.data.toList) (.lit (.int .i64 p.2))

theorem isMap_mapOf : ∀ l, IsMap (mapOf l)
  | [] => isMap_empty
  | _ :: l => (isMap_mapOf l).put _ _
theorem str_ne {a b : ByteArray} (h : a ≠ b) : (Lit.string a.data.toList) ≠ .string b.data.toList := by
  intro e
  injection e with e
  exact h (Go.WideShapes.bytes_inj e)
theorem has_mapOf (s : ByteArray) : ∀ l, Maps.has (mapOf l) (.string s.data.toList) = (lookL l s).isSome
  | [] => rfl
  | p :: l => by
    unfold mapOf lookL
    by_cases h : p.1 = s
    · rw [if_pos h, ← h]; exact has_put_same (k := .string p.1.data.toList) (isMap_mapOf l) (by simp [WideAt.IsKeyLit]) _
    · rw [if_neg h, has_put_other (str_ne (Ne.symm h)), has_mapOf s l]
theorem atKey_mapOf (s : ByteArray) (z : DataW Unit) : ∀ l, (mapOf l).atKey (.string s.data.toList) z = match lookL l s with | some a => .lit (.int .i64 a) | none => z
  | [] => rfl
  | p :: l => by
    unfold mapOf lookL
    by_cases h : p.1 = s
    · rw [if_pos h, ← h]; exact atKey_put_same (k := .string p.1.data.toList) (isMap_mapOf l) (by simp [WideAt.IsKeyLit]) _ _
    · rw [if_neg h, atKey_put_other (str_ne (Ne.symm h)), atKey_mapOf s z l]

/-- What is true of a state all the way. -/
structure LayS.ok (s : LayS) : Prop where
  place0 : 0 ≤ s.place
  place1 : s.place ≤ 65536
  labs : ∀ p ∈ s.labs, 0 ≤ p.2 ∧ p.2 ≤ 65535 ∧ p.1.size ≤ 16
  K : ∀ i, s.K i = 0 ∨ s.K i = 1 ∨ s.K i = 2
  ats : ∀ a ∈ s.ats, 0 ≤ a ∧ a ≤ 65536
end Go.Proofs.YtpjdkdphklgfjaaDoor
