/- A label's name, in plain Lean. -/
import Derived.Lib.SlTrimSet
import Derived.Lib.Bytealg
import Derived.Lib.Strings
import Derived.Test.YtpjdkdphklgfjaaDoorBase
namespace Go.Proofs.YtpjdkdphklgfjaaDoor

def lab1 (c : UInt8) : Bool := decide (97 ≤ c.toNat) && decide (c.toNat ≤ 122)
def labc (c : UInt8) : Bool := lab1 c || (decide (48 ≤ c.toNat) && decide (c.toNat ≤ 57)) || decide (c.toNat = 45)
/-- Is it a label's name? -/
def isName (s : ByteArray) : Bool :=
  match s.data.toList with
  | [] => false
  | c :: l => decide (s.size ≤ 16) && lab1 c && (c :: l).all labc

def smallL : List UInt8 := [97, 98, 99, 100, 101, 102, 103, 104, 105, 106, 107, 108, 109, 110, 111, 112, 113, 114, 115, 116, 117, 118, 119, 120, 121, 122]
def othersL : List UInt8 := [97, 98, 99, 100, 101, 102, 103, 104, 105, 106, 107, 108, 109, 110, 111, 112, 113, 114, 115, 116, 117, 118, 119, 120, 121, 122, 48, 49, 50, 51, 52, 53, 54, 55, 56, 57, 45]

theorem small_nat : ∀ n, n < 256 → decide (0 ≤ Lib.indexByte smallL (UInt8.ofNat n)) = lab1 (UInt8.ofNat n) := by decide +kernel
theorem others_nat : ∀ n, n < 256 → othersL.contains (UInt8.ofNat n) = labc (UInt8.ofNat n) := by decide +kernel
theorem small_is (c : UInt8) : decide (0 ≤ Lib.indexByte smallL c) = lab1 c := by
  have := small_nat c.toNat c.toNat_lt
  rwa [UInt8.ofNat_toNat] at this
theorem others_is (c : UInt8) : othersL.contains c = labc c := by
  have := others_nat c.toNat c.toNat_lt
  rwa [UInt8.ofNat_toNat] at this

theorem dropWhile_nil_iff (p : UInt8 → Bool) : ∀ l : List UInt8, l.dropWhile p = [] ↔ ∀ x ∈ l, p x = true
  | [] => by simp
  | a :: l => by
    rw [List.dropWhile_cons]
    have ih := dropWhile_nil_iff p l
    by_cases h : p a = true
    · rw [if_pos h, ih]; simp [h]
    · rw [if_neg h]; simp [h]

theorem trimS_nil (l cs : List UInt8) : Lib.trimS l cs = [] ↔ ∀ x ∈ l, cs.contains x = true := by
  unfold Lib.trimS Lib.trimLeftS Lib.trimRightS
  rw [dropWhile_nil_iff]
  constructor
  · intro h
    by_cases hn : l.reverse.dropWhile (cs.contains ·) = []
    · rw [dropWhile_nil_iff] at hn
      exact fun x hx => hn x (by simpa using hx)
    · exfalso
      have h1 := List.head_dropWhile_not (cs.contains ·) hn
      have h2 := h _ (List.mem_reverse.2 (List.head_mem hn))
      rw [h1] at h2
      cases h2
  · intro h x hx
    exact h x (List.mem_reverse.1 ((List.dropWhile_suffix _).subset (List.mem_reverse.1 hx)))

theorem trimS_all (l : List UInt8) : (Lib.trimS l othersL).isEmpty = l.all labc := by
  rw [Bool.eq_iff_iff, List.isEmpty_iff, trimS_nil, List.all_eq_true]
  simp only [others_is]
end Go.Proofs.YtpjdkdphklgfjaaDoor

/- An assembler's items, in plain Lean: which may be, and how many bytes they have. -/
namespace Go.Proofs.YtpjdkdphklgfjaaDoor

/-- An item of a source. -/
structure Item where
  kind : Int
  name : ByteArray
  arg : Int
  label : ByteArray
  part : Int
  bytes : List Int

/-- Which parts a form may have. -/
def partB (f part : Int) : Bool := if f = 4 then part == 2 || part == 3 else if f = 5 ∨ f = 6 then part == 1 else false
/-- May an instruction of a source be so? (n: how many bytes stand in Bytes.) -/
def instrB (name : ByteArray) (arg : Int) (label : ByteArray) (part : Int) (n : Nat) : Bool :=
  if firstI name < 0 then false
  else if 0 < n then false
  else if part = 0 then (encI name arg).2 == 0 && label.toList.isEmpty
  else if arg ≠ 0 then false
  else if isName label = false then false
  else partB (formI (firstI name)) part

/-- What must be empty of an item that is no instruction. -/
def plainB (kind : Int) (name : ByteArray) (arg : Int) (label : ByteArray) (part : Int) (n : Nat) : Bool :=
  part == 0 && (kind == 1 || name.toList.isEmpty) && (kind == 4 || arg == 0) && (kind == 5 || label.toList.isEmpty) && (kind == 3 || n == 0)

/-- May an item be? -/
def mayB (kind : Int) (name : ByteArray) (arg : Int) (label : ByteArray) (part : Int) (n : Nat) : Bool :=
  if kind = 2 then instrB name arg label part n
  else if plainB kind name arg label part n = false then false
  else if kind = 1 then isName name
  else if kind = 3 then decide (1 ≤ n) && decide (n ≤ 256)
  else if kind = 4 then decide (0 ≤ arg) && decide (arg ≤ 65535)
  else if kind = 5 then isName label
  else false

/-- How many bytes an item that may be has. -/
def sizeB (kind : Int) (name : ByteArray) (n : Nat) : Int :=
  if kind = 2 then lenI (formI (firstI name)) else if kind = 3 then n else if kind = 5 then 2 else 0

def Item.may (x : Item) : Bool := mayB x.kind x.name x.arg x.label x.part x.bytes.length
def Item.size (x : Item) : Int := sizeB x.kind x.name x.bytes.length

/-- An item as memory has them. -/
def Item.wf (x : Item) : Prop :=
  0 ≤ x.kind ∧ x.kind ≤ 255 ∧ x.name.size ≤ 9223372036854775807 ∧ -9223372036854775808 ≤ x.arg ∧ x.arg ≤ 9223372036854775807 ∧ x.label.size ≤ 9223372036854775807 ∧
  0 ≤ x.part ∧ x.part ≤ 255 ∧ x.bytes.length ≤ 9223372036854775807 ∧ ∀ y ∈ x.bytes, 0 ≤ y ∧ y ≤ 255

/-- The first item that may not be, from number i on. -/
def badFrom : List Item → Int → Option Int
  | [], _ => none
  | x :: l, i => if x.may then badFrom l (i + 1) else some i
/-- source.Check: an error and a number. -/
def checkI (l : List Item) : Int × Int :=
  if 4096 < l.length then (2, 0) else match badFrom l 0 with | some i => (130, i) | none => (0, 0)

/-- The operand of an instruction with a label at the address a. -/
def ordArg (f part a : Int) : Int := if part = 2 then a / 256 else if part = 3 ∨ f = 5 then a % 256 else a
/-- The bytes of an instruction at 'at_', its label at a. -/
def ordBytes (name : ByteArray) (arg part at_ a : Int) : List Int × Int :=
  if part = 0 then encI name arg
  else if formI (firstI name) = 5 ∧ a / 256 ≠ (at_ + 1) / 256 then ([], 142)
  else encI name (ordArg (formI (firstI name)) part a)
end Go.Proofs.YtpjdkdphklgfjaaDoor
